import Derived.Test.YtjlfkpfombdelaaDoorPartB
import Derived.Shelf.Strings.OnBuilder
import Derived.Shelf.Strings.SplitShaped
import Derived.Shelf.Strings.SlTrimAscii
import Derived.Shelf.Small.Strs
import Derived.Shelf.Strings.Cut
import Derived.DataReads
import GoSem.ClaimChange
import Derived.WideShapes
import Derived.ChangeShapes
import Derived.Test.YtjlfkpfombdelaaDoorProg
import Derived.WalkKit
import Derived.ProofKit
namespace Go.Ev
noncomputable section
open Go.Shelf Go.RowKit Go.Proofs
set_option linter.unusedVariables false
set_option linter.unusedSimpArgs false
abbrev Prim:=List AV→St→Option (AV × St)
structure iw (R:bf) (P:Program) (f:Nat) (p:Prim):Prop where
 pure:∀ args S v S',p args S=some (v,S')→(ja args).isSome=true→(sZ v).isSome=true→∀ S2,p args S2=some (v,S2)
 calls:∀ args S v S',p args S=some (v,S')→(∃ fn,P.funcs[f]? = some fn∧fn.body.isSome=true∧fn.name ≠ "runtime.NumGoroutine") ∧
  ∀ cx w (us:List Value),aO R cx S w→us.length=args.length→(∀ (i:Nat) (x:AV) (u:Value),args[i]? = some x→us[i]? = some u→aD cx S w x u) →
  Calls P f us.toArray w (fun e w'=>∃ cx',aO R cx' S' w'∧Ext cx S w cx' S' w'∧∃ u,e=.returned u∧aD cx' S' w' v u)
def wy (R:bf) (P:Program):AL Prim→Prop
 | []=>True
 | (f,p) :: l=>iw R P f p∧wy R P l
theorem mH {R:bf} {P:Program}:∀ {l:AL Prim} {f:Nat} {p:Prim},wy R P l→AL.get l f=some p→iw R P f p
 | [],f,p,_,h=>by cases h
 | (k,q) :: l,f,p,hl,h=>by
  rw [AL.eU] at h
  split at h
  ·
   rename_i he
   cases h; subst he; exact hl.1
  ·
   exact mH hl.2 h
def rY (args:List AV) (S:St):Option (AV × St) :=
 match args with
 | [.ptr id 0 0,.d (.int .u8 c)]=>match S.H.get id with
  | some (.obj 1 (.str bs))=>if 0 ≤ c∧c < 256∧bs.length + 1 ≤ bound then some (.d .nili,{ S with H:=S.H.set id (.obj 1 (.str (bs ++ [UInt8.ofNat c.toNat]))) }) else none
  | _=>none
 | _=>none
def rT (args:List AV) (S:St):Option (AV × St) :=
 match args with
 | [.ptr id 0 0,.d (.str s)]=>match S.H.get id with
  | some (.obj 1 (.str bs))=>if bs.length + s.length ≤ bound then some (.tup [.d (.int .i64 (s.length:Nat)),.d .nili],{ S with H:=S.H.set id (.obj 1 (.str (bs ++ s))) }) else none
  | _=>none
 | _=>none
def rP (args:List AV) (S:St):Option (AV × St) :=
 match args with
 | [.ptr id 0 0]=>match S.H.get id with
  | some (.obj 1 (.str bs))=>some (.d (.str bs),{ S with H:=S.H.del id })
  | _=>none
 | _=>none
theorem vE {T e:Nat} {G:World→(Nat→Nat→Prop)→Prop} {cx:Cx} {S:St} {w:World} (hS:aO (sS T e G) cx S w) {id:Nat} {l:List UInt8} (hk:S.H.get id=some (.obj 1 (.str l))) {u:Value} (hu:aD cx S w (.ptr id 0 0) u) :
  u=.pointer (some ⟨cx.bm id,0,none⟩)∧∃ p v,oV T e (cx.bm id) p v (Lib.byteCells l) w∧∀ c,cx.fp id c↔(c=cx.bm id∨v.ownBlock=some c):=by
 obtain ⟨⟨_,l',p,v,hx,h1,h2⟩ | ⟨h3,_⟩,_⟩:=hS.objs id _ _ hk
 rotate_left
 ·
  cases h3
 cases hx
 cases hu with
 | ptr _ _ _ b hn hp =>
  have:=hp (by simp [cur,hk,qd])
  subst this
  exact ⟨rfl,p,v,h1,h2⟩
theorem Ct {G:World→(Nat→Nat→Prop)→Prop} (hG:mW G) {P:Program} {ρ:Ren} (L:Lays.n167 P ρ) (X:Builder.Extra P ρ):iw (sS (ρ.t 72) (ρ.t 5) G) P (ρ.f 167) rY where
 pure:=fun args S v S' h h1=>by
  exfalso
  unfold rY at h
  split at h
  ·
   simp [ja,sW] at h1
  ·
   cases h
 calls:=fun args S v S' h=>⟨⟨_,L.f167,rfl,by show ¬ ("(*strings.Builder).WriteByte" = "runtime.NumGoroutine"); decide⟩,fun cx w us hS hl hr=>by
  unfold rY at h
  split at h
  ·
   rename_i id c
   split at h
   ·
    rename_i bs hk
    split at h
    ·
     rename_i hc
     simp only [Option.some.injEq,Prod.mk.injEq] at h
     obtain ⟨rfl,rfl⟩:=h
     match us,hl with
     | [u0,u1],_ =>
     obtain ⟨rfl,p,v,h1,h2⟩:=vE hS hk (hr 0 _ _ rfl rfl)
     have r1:=hr 1 _ _ rfl rfl
     cases r1 with
     | d _ _ r1 =>
     have a1:=r1.val rfl; cases a1
     refine (uy L X h1 c (by rw [Lib.byteCells_length]; exact hc.2.2)).mono (fun e w' hp=>?_)
     obtain ⟨rfl,hp⟩:=hp
     have hb:Lib.byteCells bs ++ [.int .u8 c]=Lib.byteCells (bs ++ [UInt8.ofNat c.toNat]):=by
      have:((UInt8.ofNat c.toNat).toNat:Int)=c:=by
       rw [UInt8.toNat_ofNat']
       have h0:=hc.1; have h1:=hc.2.1
       omega
      simp only [Lib.byteCells,List.map_append,List.map_cons,List.map_nil,this]
     rw [hb] at hp
     obtain ⟨cx',k1,k2⟩:=uX hG hS hk h2 hp
     exact ⟨cx',k1,k2,_,rfl,.d _ _ (aU.of_cell .nili rfl)⟩
    ·
     cases h
   ·
    cases h
  ·
   cases h⟩
theorem Cu {G:World→(Nat→Nat→Prop)→Prop} (hG:mW G) {P:Program} {ρ:Ren} (L:Lays.n166 P ρ) (X:Builder.Extra P ρ):iw (sS (ρ.t 72) (ρ.t 5) G) P (ρ.f 166) rT where
 pure:=fun args S v S' h h1=>by
  exfalso
  unfold rT at h
  split at h
  ·
   simp [ja,sW] at h1
  ·
   cases h
 calls:=fun args S v S' h=>⟨⟨_,L.f166,rfl,by show ¬ ("(*strings.Builder).WriteString" = "runtime.NumGoroutine"); decide⟩,fun cx w us hS hl hr=>by
  unfold rT at h
  split at h
  ·
   rename_i id s
   split at h
   ·
    rename_i bs hk
    split at h
    ·
     rename_i hc
     simp only [Option.some.injEq,Prod.mk.injEq] at h
     obtain ⟨rfl,rfl⟩:=h
     match us,hl with
     | [u0,u1],_ =>
     obtain ⟨rfl,p,v,h1,h2⟩:=vE hS hk (hr 0 _ _ rfl rfl)
     have r1:=hr 1 _ _ rfl rfl
     cases r1 with
     | d _ _ r1 =>
     have a1:=r1.val rfl; cases a1
     rename_i s xx
     refine (qZ L X h1 s (by rw [Lib.byteCells_length]; simpa using hc)).mono (fun e w' hp=>?_)
     obtain ⟨rfl,hp⟩:=hp
     have hb:Lib.byteCells bs ++ Lib.strCells s=Lib.byteCells (bs ++ s.data.toList):=by
      simp [Lib.byteCells,Lib.strCells]
     rw [hb] at hp
     obtain ⟨cx',k1,k2⟩:=uX hG hS hk h2 hp
     refine ⟨cx',k1,k2,_,rfl,.tup _ [.int .i64 (s.size:Nat),.nilIface] rfl (fun i x v hx hv=>?_)⟩
     match i,hx,hv with
     | 0,hx,hv =>
      simp at hx hv; subst hx; subst hv
      exact .d _ _ (aU.of_cell (.int _ _) rfl)
     | 1,hx,hv =>
      simp at hx hv; subst hx; subst hv
      exact .d _ _ (aU.of_cell .nili rfl)
    ·
     cases h
   ·
    cases h
  ·
   cases h⟩
theorem Cr {G:World→(Nat→Nat→Prop)→Prop} (hG:mW G) {P:Program} {ρ:Ren} (L:Lays.n169 P ρ) (X:Builder.Extra P ρ):iw (sS (ρ.t 72) (ρ.t 5) G) P (ρ.f 169) rP where
 pure:=fun args S v S' h h1=>by
  exfalso
  unfold rP at h
  split at h
  ·
   simp [ja,sW] at h1
  ·
   cases h
 calls:=fun args S v S' h=>⟨⟨_,L.f169,rfl,by show ¬ ("(*strings.Builder).String" = "runtime.NumGoroutine"); decide⟩,fun cx w us hS hl hr=>by
  unfold rP at h
  split at h
  ·
   rename_i id
   split at h
   ·
    rename_i bs hk
    simp only [Option.some.injEq,Prod.mk.injEq] at h
    obtain ⟨rfl,rfl⟩:=h
    match us,hl with
    | [u0],_ =>
    obtain ⟨rfl,p,v,h1,h2⟩:=vE hS hk (hr 0 _ _ rfl rfl)
    refine (yn L X h1).mono (fun e w' hp=>?_)
    obtain ⟨rfl,hp⟩:=hp
    obtain ⟨k1,k2⟩:=Ad hG hS hk h2 hp
    refine ⟨cx,k1,k2,_,rfl,.d _ _ (aU.of_cell ?_ rfl)⟩
    have:=eY.str (w:=w') (fr:=cx.fr) ⟨bs.toArray⟩
    simpa using this
   ·
    cases h
  ·
   cases h⟩
end
end Go.Ev

namespace Go.Ev
noncomputable section
open Go.Shelf Go.RowKit Go.Proofs
set_option linter.unusedVariables false
set_option linter.unusedSimpArgs false
def Leaves (w:World) (fr:Nat→Nat→Prop) (v:AV) (e:Ending) (w':World):Prop :=
 Below w.heap.size w w'∧∃ u,e=.returned u∧∀ cx S,cx.fr=fr→aD cx S w' v u
def ik (spec:List D→Option AV):Prim:=fun args S=>match ja args with
 | some ds=>(spec ds).map fun v=>(v,S)
 | none=>none
theorem ko {R:bf} (hR:ObjOk R) {P:Program} {f:Nat} {spec:List D→Option AV} (hd:∀ ds v,spec ds=some v→(sZ v).isSome=true)
  (hb:∃ fn,P.funcs[f]? = some fn∧fn.body.isSome=true∧fn.name ≠ "runtime.NumGoroutine")
  (hc:∀ ds v,spec ds=some v→∀ (w:World) (fr:Nat→Nat→Prop) (us:List Value),R.G w fr→(∀ b o,fr b o→b < w.heap.size)→us.length=ds.length→(∀ (i:Nat) (y:D) (u:Value),ds[i]? = some y→us[i]? = some u→aU w fr y u) →
   Calls P f us.toArray w (Leaves w fr v)):iw R P f (ik spec) where
 pure:=fun args S v S' h _ _ S2=>by
  unfold ik at h ⊢
  split at h
  ·
   rename_i ds hds
   simp only [Option.map_eq_some_iff,Prod.mk.injEq] at h
   obtain ⟨a,h1,rfl,_⟩:=h
   simp [hds,h1]
  ·
   cases h
 calls:=fun args S v S' h=>⟨hb,fun cx w us hS hl hr=>by
  unfold ik at h
  split at h
  ·
   rename_i ds hds
   simp only [Option.map_eq_some_iff,Prod.mk.injEq] at h
   obtain ⟨a,h1,rfl,rfl⟩:=h
   obtain ⟨d1,d2⟩:=pK hds
   refine (hc ds a h1 w cx.fr us hS.stat hS.lt (by rw [hl,d1]) (fun i y u hy hu=>?_)).mono (fun e w' hp=>?_)
   ·
    have hlt:i < args.length:=by rw [← d1]; exact (List.getElem?_eq_some_iff.1 hy).1
    have ha:=List.getElem?_eq_getElem hlt
    exact jf (d2 i _ y ha hy) (hr i _ u ha hu)
   ·
    obtain ⟨hbl,u,rfl,hv⟩:=hp
    have e:Ext cx S w cx S w':=Ext.old hS hbl.size (fun b hb=>hbl.block b hb) hbl.os hbl.tape hbl.output
    exact ⟨cx,aO.old hR hS hbl.size (fun b hb=>hbl.block b hb) e,e,u,rfl,hv cx S rfl⟩
  ·
   cases h⟩
theorem rq (w:World) (fr:Nat→Nat→Prop) (l:List UInt8):aU w fr (.str l) (.string ⟨l.toArray⟩):=by
 have:=eY.str (w:=w) (fr:=fr) ⟨l.toArray⟩
 exact aU.of_cell (by simpa using this) rfl
theorem ku {w:World} {fr:Nat→Nat→Prop} {l:List UInt8} {u:Value} (h:aU w fr (.str l) u):u=.string ⟨l.toArray⟩:=by
 have a:=h.val rfl
 cases a
 simp
def sw:List D→Option AV
 | [.str s,.str c]=>if s.length ≤ bound∧c.length ≤ 1000∧(c.all fun b=>decide (b.toNat < 128))=true then some (.d (.str (Lib.trimS s c))) else none
 | _=>none
theorem BH {R:bf} (hR:ObjOk R) {P:Program} {ρ:Ren} (L:Lays.n160 P ρ) (h116:(P.info? (ρ.t 116)).map (fun i=>(i.zero,i.size))=some (some (.agg (Array.replicate 256 (.bool false))),256)) :
  iw R P (ρ.f 160) (ik sw):=by
 refine ko hR (fun ds v h=>?_) ⟨_,L.f160,rfl,by show ¬ ("strings.Trim" = "runtime.NumGoroutine"); decide⟩ (fun ds v h w fr us hG hfr hl hr=>?_)
 ·
  unfold sw at h
  split at h
  ·
   split at h
   ·
    simp only [Option.some.injEq] at h; subst h; rfl
   ·
    cases h
  ·
   cases h
 ·
  unfold sw at h
  split at h
  ·
   rename_i s c
   split at h
   ·
    rename_i hc
    obtain ⟨h1,h2,h3⟩:=hc
    simp only [Option.some.injEq] at h; subst h
    match us,hl with
    | [u0,u1],_ =>
    obtain rfl:=ku (hr 0 _ _ rfl rfl)
    obtain rfl:=ku (hr 1 _ _ rfl rfl)
    refine (Any.strings_Trim_laid L h116 ⟨s.toArray⟩ ⟨c.toArray⟩ w (by simp [ByteArray.size]; unfold bound at h1; omega) (by simp [ByteArray.size]; omega) (by simpa using ascii_of_all h3)).mono (fun e w' hp=>?_)
    obtain ⟨rfl,hb⟩:=hp
    exact ⟨hb,_,rfl,fun cx S _=>.d _ _ (by simpa using rq w' cx.fr (Lib.trimS s c))⟩
   ·
    cases h
  ·
   cases h
def vO:List D→Option AV
 | [.str s,.int .u8 c]=>some (.d (.int .i64 (Lib.indexByte s c.toNat.toUInt8)))
 | _=>none
theorem Ch {R:bf} (hR:ObjOk R) {P:Program} {ρ:Ren} (L:Lays.n137 P ρ):iw R P (ρ.f 137) (ik vO):=by
 refine ko hR (fun ds v h=>?_) ⟨_,L.f137,rfl,by show ¬ ("strings.IndexByte" = "runtime.NumGoroutine"); decide⟩ (fun ds v h w fr us hG hfr hl hr=>?_)
 ·
  unfold vO at h
  split at h
  ·
   simp only [Option.some.injEq] at h; subst h; rfl
  ·
   cases h
 ·
  unfold vO at h
  split at h
  ·
   rename_i s c
   simp only [Option.some.injEq] at h; subst h
   match us,hl with
   | [u0,u1],_ =>
   obtain rfl:=ku (hr 0 _ _ rfl rfl)
   have a1:=(hr 1 _ _ rfl rfl).val rfl
   cases a1
   refine (Any.strings_IndexByte L ⟨s.toArray⟩ c w).mono (fun e w' hp=>?_)
   obtain ⟨rfl,rfl⟩:=hp
   exact ⟨Below.refl _ _,_,rfl,fun cx S _=>.d _ _ (aU.of_cell (by simpa using eY.int (w:=w') (fr:=cx.fr) .i64 (Lib.indexByte s c.toNat.toUInt8)) rfl)⟩
  ·
   cases h
def gG (c:UInt8):List UInt8→List (List UInt8)
 | []=>[[]]
 | b :: l=>if b == c then [] :: gG c l else match gG c l with
  | []=>[[b]]
  | x :: r=>(b :: x) :: r
theorem qH (c:UInt8):∀ (s:List UInt8),c ∉ s→gG c s=[s]
 | [],_=>rfl
 | b :: l,h=>by
  have h1:¬ (b == c)=true:=fun q=>h (by rw [eq_of_beq q]; exact List.mem_cons_self)
  rw [gG,if_neg h1,qH c l (fun q=>h (List.mem_cons_of_mem _ q))]
theorem qK (c:UInt8) (t:List UInt8):∀ (s:List UInt8),c ∉ s→gG c (s ++ c :: t)=s :: gG c t
 | [],_=>by simp [gG]
 | b :: l,h=>by
  have h1:¬ (b == c)=true:=fun q=>h (by rw [eq_of_beq q]; exact List.mem_cons_self)
  rw [List.cons_append,gG,if_neg h1,qK c t l (fun q=>h (List.mem_cons_of_mem _ q))]
theorem occ_one (s:List UInt8) (c:UInt8) (i:Nat):Lib.occAt s [c] i=(s[i]? == some c):=by
 unfold Lib.occAt
 cases h:s.drop i with
 | nil =>
  have:s[i]? = none:=by rw [List.getElem?_eq_none]; have:=congrArg List.length h; simp at this; omega
  rw [this]; rfl
 | cons b l =>
  have:s[i]? = some b:=by have:=congrArg (·[0]?) h; simpa using this
  rw [this]
  simp only [List.isPrefixOf_cons_cons,List.isPrefixOf_nil_left,Bool.and_true]
  by_cases hb:c=b
  ·
   subst hb; simp
  ·
   have h1:(c == b)=false:=by simpa using hb
   have h2:(some b == some c)=false:=by simpa using Ne.symm hb
   rw [h1,h2]
theorem yg (c:UInt8):∀ (n:Nat) (s:List UInt8),s.length ≤ n→Lib.splitK [c] 0 (Lib.count s [c]) s=gG c s:=by
 intro n
 induction n with
 | zero =>
  intro s hs
  have:s=[]:=List.eq_nil_of_length_eq_zero (by omega)
  subst this
  rfl
 | succ n ih =>
  intro s hs
  rcases Lib.index_spec s [c] with ⟨h1,h2⟩ | ⟨i,h1,h2,h3,h4⟩
  ·
   rw [Lib.count_miss h1,Lib.splitK]
   refine (qH c s (fun hm=>?_)).symm
   obtain ⟨j,hj,hjs⟩:=List.getElem_of_mem hm
   have:=h2 j (by omega)
   rw [occ_one,List.getElem?_eq_getElem hj,hjs] at this
   simp at this
  ·
   rw [Lib.count_hit (by simp) h1]
   have hne:¬ (Lib.index s [c] == -1)=true:=fun q=>by have:=beq_iff_eq.1 q; omega
   rw [Nat.add_comm,Lib.splitK,if_neg hne,h1]
   have e1:((i:Int)).toNat=i:=by omega
   rw [e1]
   rw [occ_one] at h3
   have hi:s[i]? = some c:=by simpa using h3
   have hlt:=(List.getElem?_eq_some_iff.1 hi).1
   have hs2:s=s.take i ++ c :: s.drop (i + 1):=by
    have:=List.getElem_cons_drop hlt
    rw [(List.getElem?_eq_some_iff.1 hi).2] at this
    rw [this,List.take_append_drop]
   have hnm:c ∉ s.take i:=fun hm=>by
    obtain ⟨j,hj,hjs⟩:=List.getElem_of_mem hm
    simp at hj
    have:=h4 j (by omega)
    rw [occ_one,List.getElem?_eq_getElem (by omega)] at this
    simp at hjs
    simp [hjs] at this
   conv=>rhs; rw [hs2]
   rw [qK c _ _ hnm]
   simp only [Nat.add_zero,List.length_singleton]
   rw [ih _ (by simp; omega)]
def lH:List D→Option AV
 | [.str s,.str [c]]=>if s.length ≤ 1000000 then some (.d (.sl ((gG c s).map .str) false)) else none
 | _=>none
def Bj (g:Nat) (w:World) (fr:Nat→Nat→Prop):Prop:=(∃ m,w.cell? ⟨g,0,none⟩=some (.int .i64 m))∧¬ fr g 0
theorem BQ (g:Nat):mW (Bj g):=fun w w' fr fr' h hp=>by
 obtain ⟨⟨m,h1⟩,h2⟩:=h
 obtain ⟨a,b⟩:=hp g 0 _ h2 h1
 exact ⟨⟨m,a⟩,b⟩
theorem Ay {w:World} {fr:Nat→Nat→Prop} {xs:List (List UInt8)} {b el:Nat} {arr:Array Value} {fz:Nat × Nat} (hb:w.heap[b]? = some (.cells arr el fz)) (hfr:∀ o,¬ fr b o)
  (ha:arr.toList=xs.map fun l=>Value.string ⟨l.toArray⟩) (hne:xs ≠ []):aU w fr (.sl (xs.map .str) false) (.slice (some ⟨b,0,none⟩) xs.length xs.length):=by
 refine aU.of_cell ?_ rfl
 have:=eY.sl (w:=w) (fr:=fr) (xs.map .str) false b 0 xs.length 1 (fun i=>[(arr.toList[i]?).getD .nilIface]) (by simpa using hne) (by simp) (fun q=>by cases q) (fun i x hx=>by
  simp only [List.getElem?_map,Option.map_eq_some_iff] at hx
  obtain ⟨a,_,rfl⟩:=hx; rfl) (fun i _=>rfl) (fun i x hx=>by
  simp only [List.getElem?_map,Option.map_eq_some_iff] at hx
  obtain ⟨a,h1,rfl⟩:=hx
  rw [ha,List.getElem?_map,h1]
  exact (rq w fr a).val rfl) (fun i j v hi hv=>by
  cases j with
  | zero =>
   simp only [List.getElem?_cons_zero,Option.some.injEq] at hv
   refine ⟨?_,hfr _⟩
   rw [cell_of hb,Nat.mul_one,Nat.zero_add,Nat.add_zero,← hv]
   have hi':i < arr.toList.length:=by rw [ha]; simpa using hi
   rw [List.getElem?_eq_getElem hi',Option.getD_some,← Array.getElem?_toList,List.getElem?_eq_getElem hi']
  | succ j=>simp at hv)
 simpa using this
theorem zi (c:UInt8) (s:List UInt8):gG c s ≠ []:=by
 cases s with
 | nil=>simp [gG]
 | cons b l =>
  unfold gG
  split
  ·
   simp
  ·
   split <;> simp
theorem Bo {R:bf} (hR:ObjOk R) {P:Program} {ρ:Ren} (L:Lays.n146 P ρ) (hi9:(P.info? (ρ.t 9)).map (fun i=>(i.zero,i.size,i.bytes))=some (some (.string ByteArray.empty),1,16))
  (hG:∀ w fr,R.G w fr→∃ m,w.cell? ⟨(ρ.g 1),0,none⟩=some (.int .i64 m)):iw R P (ρ.f 146) (ik lH):=by
 refine ko hR (fun ds v h=>?_) ⟨_,L.f146,rfl,by show ¬ ("strings.Split" = "runtime.NumGoroutine"); decide⟩ (fun ds v h w fr us hGw hfr hl hr=>?_)
 ·
  unfold lH at h
  split at h
  ·
   split at h
   ·
    simp only [Option.some.injEq] at h; subst h; rfl
   ·
    cases h
  ·
   cases h
 ·
  unfold lH at h
  split at h
  ·
   rename_i s c
   split at h
   ·
    rename_i hc
    simp only [Option.some.injEq] at h; subst h
    match us,hl with
    | [u0,u1],_ =>
    obtain rfl:=ku (hr 0 _ _ rfl rfl)
    obtain rfl:=ku (hr 1 _ _ rfl rfl)
    obtain ⟨m,hm⟩:=hG w fr hGw
    refine (Any.strings_Split L hi9 ⟨s.toArray⟩ ⟨#[c]⟩ m w (by simp [ByteArray.size]; omega) hm (by simp [ByteArray.size])).mono (fun e w' hp=>?_)
    obtain ⟨rfl,rfl⟩:=hp
    have hq:(Lib.splitB ⟨#[c]⟩ 0 (Lib.countB ⟨s.toArray⟩ ⟨#[c]⟩) ⟨s.toArray⟩).map (·.data.toList)=gG c s:=by
     rw [Lib.splitB_data]
     have:=yg c s.length s (Nat.le_refl _)
     simpa [Lib.countB] using this
    have hlen:Lib.countB ⟨s.toArray⟩ ⟨#[c]⟩ + 1=(gG c s).length:=by
     rw [← hq,List.length_map,Lib.splitB_all _ (by simp [ByteArray.size]) 0 _ _ rfl]
    refine ⟨(Below.refl _ _).alloc (Nat.le_refl _) _,_,rfl,fun cx S hcx=>.d _ _ ?_⟩
    rw [hlen]
    refine Ay (arr:=((Lib.splitB ⟨#[c]⟩ 0 (Lib.countB ⟨s.toArray⟩ ⟨#[c]⟩) ⟨s.toArray⟩).map Value.string).toArray) (heap_alloc_new w _) (fun o q=>?_) ?_ (zi c s)
    ·
     rw [hcx] at q; have:=hfr _ _ q; omega
    ·
     rw [← hq]
     simp
   ·
    cases h
  ·
   cases h
def strsOf:List D→Option (List (List UInt8))
 | []=>some []
 | .str s :: l=>(strsOf l).map (s :: ·)
 | _ :: _=>none
theorem qw:∀ {l:List D} {xs:List (List UInt8)},strsOf l=some xs→l=xs.map .str
 | [],xs,h=>by simp [strsOf] at h; subst h; rfl
 | x :: l,xs,h=>by
  cases x <;> try (cases h; done)
  simp only [strsOf,Option.map_eq_some_iff] at h
  obtain ⟨ys,h1,rfl⟩:=h
  rw [qw h1]; rfl
def mJ:List D→Option AV
 | [.bK,.str _]=>some (.d (.str []))
 | [.sl l _,.str sep]=>match strsOf l with
  | some xs=>if (Lib.join xs sep).length ≤ bound∧xs.length ≤ bound then some (.d (.str (Lib.join xs sep))) else none
  | none=>none
 | _=>none
theorem BC {R:bf} (hR:ObjOk R) {P:Program} {ρ:Ren} (L:Lays.n156 P ρ) (X:Builder.Extra P ρ):iw R P (ρ.f 156) (ik mJ):=by
 refine ko hR (fun ds v h=>?_) ⟨_,L.f156,rfl,by show ¬ ("strings.Join" = "runtime.NumGoroutine"); decide⟩ (fun ds v h w fr us hG hfr hl hr=>?_)
 ·
  unfold mJ at h
  split at h
  ·
   simp only [Option.some.injEq] at h; subst h; rfl
  ·
   split at h
   ·
    split at h
    ·
     simp only [Option.some.injEq] at h; subst h; rfl
    ·
     cases h
   ·
    cases h
  ·
   cases h
 ·
  unfold mJ at h
  split at h
  ·
   simp only [Option.some.injEq] at h; subst h
   match us,hl with
   | [u0,u1],_ =>
   have a0:=(hr 0 _ _ rfl rfl).val rfl
   cases a0
   obtain rfl:=ku (hr 1 _ _ rfl rfl)
   refine (Any.strings_Join_none L X none 0 _ w).mono (fun e w' hp=>?_)
   obtain ⟨rfl,rfl⟩:=hp
   exact ⟨Below.refl _ _,_,rfl,fun cx S _=>.d _ _ (rq w' cx.fr [])⟩
  ·
   rename_i l t sep
   split at h
   ·
    rename_i xs hxs
    split at h
    ·
     rename_i hc
     simp only [Option.some.injEq] at h; subst h
     have:=qw hxs
     subst this
     match us,hl with
     | [u0,u1],_ =>
     obtain rfl:=ku (hr 1 _ _ rfl rfl)
     have a0:=(hr 0 _ _ rfl rfl).val rfl
     have key:∀ (q:List UInt8) (e:Ending) (w':World),e=.returned (.string ⟨q.toArray⟩)→Below w.heap.size w w'→Leaves w fr (.d (.str q)) e w':=fun q e w' h1 h2 =>
      ⟨h2,_,h1,fun cx S _=>.d _ _ (rq w' cx.fr q)⟩
     generalize hys:xs.map D.str=ys at a0
     cases a0 with
     | sl0 a cap tt ht =>
      have:xs=[]:=by simpa using hys
      subst this
      refine (Any.strings_Join_none L X a cap _ w).mono (fun e w' hp=>?_)
      obtain ⟨rfl,rfl⟩:=hp
      exact key [] _ _ rfl (Below.refl _ _)
     | sl ys tt b off cap sz vs hne hcap htt hsz hlen hx hcell =>
      subst hys
      have hne':xs ≠ []:=by simpa using hne
      have hpos:0 < xs.length:=List.length_pos_iff.2 hne'
      have h0:(xs.map D.str)[0]? = some (.str (xs[0])):=by simp [hpos]
      have hsz1:sz=1:=(hsz 0 _ h0).symm
      subst hsz1
      have hcells:∀ (j:Nat) (x:ByteArray),(xs.map fun l=>(⟨l.toArray⟩:ByteArray))[j]? = some x→w.cell? ⟨b,off + j,none⟩=some (.string x):=fun j x hj=>by
       simp only [List.getElem?_map,Option.map_eq_some_iff] at hj
       obtain ⟨s,hs,rfl⟩:=hj
       have hjl:j < (xs.map D.str).length:=by simpa using (List.getElem?_eq_some_iff.1 hs).1
       have hr1:=hx j (.str s) (by simp [hs])
       have hl1:=hlen j hjl
       obtain ⟨v,hv⟩:∃ v,vs j=[v]:=by
        match hh:vs j,hl1 with
        | [v],_=>exact ⟨v,rfl⟩
       rw [hv] at hr1
       obtain rfl:=ku (aU.of_cell hr1 rfl)
       have:=(hcell j 0 (.string ⟨s.toArray⟩) hjl (by rw [hv]; rfl)).1
       simpa using this
      have hbk:b < w.heap.size:=ky (hcells 0 ⟨(xs[0]).toArray⟩ (by simp [hpos]))
      have hjn:(xs.map fun l=>(⟨l.toArray⟩:ByteArray)).map (·.data.toList)=xs:=by rw [List.map_map]; exact List.map_id'' (fun _=>rfl) xs
      have hb2:bound ≤ 140737488355328:=by decide
      refine (Any.strings_Join L X b off cap (xs.map fun l=>(⟨l.toArray⟩:ByteArray)) ⟨sep.toArray⟩ w hcells hbk (by rw [List.length_map]; omega) (by simpa using hcap) (by rw [hjn]; simp only []; omega)).mono (fun e w' hp=>?_) |> fun z=>by simpa using z
      obtain ⟨rfl,hb3⟩:=hp
      rw [hjn]
      exact key _ _ _ rfl hb3
    ·
     cases h
   ·
    cases h
  ·
   cases h
end
end Go.Ev

namespace Go.Ev
noncomputable section
set_option linter.unusedVariables false
def CL (P:Program) (f:Nat):Bool:=match P.funcs[f]? with
 | some fn=>(match fn.body with | some c=>codeOk c | none=>true) && !(fn.name == "runtime.NumGoroutine")
 | none=>true
def Az:List Nat→Nat→Bool
 | [],_=>false
 | x :: l,n=>bif Nat.beq x n then true else Az l n
theorem xA:∀ {l:List Nat} {n:Nat},Az l n=true→n ∈ l
 | [],n,h=>by cases h
 | x :: l,n,h=>by
  unfold Az at h
  cases hb:Nat.beq x n
  ·
   rw [hb] at h; exact List.mem_cons_of_mem _ (xA h)
  ·
   have:=Nat.eq_of_beq_eq_true hb; subst this; exact List.mem_cons_self
def vD (P:Program) (good rows:List Nat) (ps:AL Prim) (hasB:Bool) (bt:Nat):fq :=
 { P:=P,good:=Az good,rowT:=Az rows,prim:=fun f args S=>match AL.get ps f with | some p=>p args S | none=>none,objT:=fun t=>bif hasB && Nat.beq t bt then some (1,.str []) else none,hasPrim:=AL.has ps }
theorem Cq {G:World→(Nat→Nat→Prop)→Prop} (hG:mW G) {P:Program} {good rows:List Nat} {ps:AL Prim} {hasB:Bool} {bt e:Nat} (hg:good.all (CL P)=true) (hm:P.follows .mixedOrders=true)
  (hz:hasB=true→∀ w,(zeroValue bt).run P w=.ok (.agg #[.pointer none,.slice none 0 0]) w) (hp:wy (sS bt e G) P ps):CE (sS bt e G) (vD P good rows ps hasB bt) where
 obj:={ vP hG with
  new:=fun t k x h=>by
   simp only [vD] at h
   cases hb:hasB && Nat.beq t bt with
   | false=>rw [hb] at h; cases h
   | true =>
    rw [hb] at h
    simp only [cond_true,Option.some.injEq,Prod.mk.injEq] at h
    obtain ⟨rfl,rfl⟩:=h
    simp only [Bool.and_eq_true] at hb
    have ht:=Nat.eq_of_beq_eq_true hb.2
    subst ht
    exact ⟨_,hz hb.1,fun w=>.inl ⟨rfl,[],.pointer none,.slice none 0 0,rfl,⟨.inl rfl,heap_alloc_new w _,World.ownsRow_nil _ 0 e 1,by simp [Value.ownBlock]⟩,fun c=>by simp [Value.ownBlock]⟩,rfl⟩ }
 mixed:=hm
 code:=fun f fn c h hf hc=>by
  have:=List.all_eq_true.1 hg f (xA h)
  unfold CL at this
  have hf':P.funcs[f]? = some fn:=hf
  simp only [hf',hc,Bool.and_eq_true,Bool.not_eq_true'] at this
  exact ⟨this.1,fun q=>by rw [q] at this; simp at this⟩
 primPure:=fun f args S v S' _ h h1 h2 S2=>by
  simp only [vD] at h ⊢
  split at h
  ·
   rename_i p hq; exact (mH hp hq).pure args S v S' h h1 h2 S2
  ·
   cases h
 prim:=fun f args S v S' _ h=>by
  simp only [vD] at h
  split at h
  ·
   rename_i p hq; exact (mH hp hq).calls args S v S' h
  ·
   cases h
end
end Go.Ev

namespace Go.Ev
noncomputable section
set_option linter.unusedVariables false
set_option linter.unusedSimpArgs false
def zD:Nat→Nat→Prop:=fun _ _=>False
structure jI (w:World) (ds:List D) (cs:List Value):Prop where
 len:cs.length=ds.length
 one:∀ v ∈ cs,v.oneCell'=true
 flat:∀ d ∈ ds,d.isAgg=false
 rel:∀ (i:Nat) (d:D) (v:Value),ds[i]? = some d→cs[i]? = some v→eY w zD d [v]
theorem jI.nil {w:World}:jI w [] []:=⟨rfl,by simp,by simp,by simp⟩
theorem jI.append {w:World} {a b:List D} {x y:List Value} (h:jI w a x) (k:jI w b y):jI w (a ++ b) (x ++ y) where
 len:=by simp [h.len,k.len]
 one:=fun v hv=>by rcases List.mem_append.1 hv with q | q; exact h.one v q; exact k.one v q
 flat:=fun v hv=>by rcases List.mem_append.1 hv with q | q; exact h.flat v q; exact k.flat v q
 rel:=fun i d v hd hv=>by
  by_cases hi:i < a.length
  ·
   rw [List.getElem?_append_left hi] at hd
   rw [List.getElem?_append_left (by rw [h.len]; exact hi)] at hv
   exact h.rel i d v hd hv
  ·
   rw [List.getElem?_append_right (by omega)] at hd
   rw [List.getElem?_append_right (by rw [h.len]; omega),h.len] at hv
   exact k.rel _ d v hd hv
theorem jI.single {w:World} {d:D} {v:Value} (h:eY w zD d [v]) (ho:v.oneCell'=true) (hd:d.isAgg=false):jI w [d] [v] where
 len:=rfl
 one:=by simpa using ho
 flat:=by simpa using hd
 rel:=fun i d' v' h1 h2=>by
  cases i with
  | zero=>simp at h1 h2; subst h1; subst h2; exact h
  | succ i=>simp at h1
theorem jI.Cb {w:World} {x:D} {cs:List Value} (h:jI w x.cells cs):eY w zD x cs:=by
 cases hx:x.isAgg with
 | true =>
  cases x <;> simp [D.isAgg] at hx
  rename_i xs
  exact .agg xs cs h.len h.one h.flat h.rel
 | false =>
  have hc:x.cells=[x]:=by cases x <;> simp_all [D.isAgg,D.cells]
  rw [hc] at h
  have hl:=h.len
  match cs,hl with
  | [v],_=>exact h.rel 0 x v rfl rfl
def mo (P:Program) (t:Nat) {α:Type} (enc:α→D) (wf:α→Prop):Prop :=
 ∀ {H:Type} (en:TypeId × Value→H) (w:World) (base:Nat) (sp:Nat→Bool) (held:Bool) (fuel:Nat) (cs:List Value) (d:DataW H) (p:List MemPlace),
  DataW.trod en P w base sp held fuel t cs=some (d,p)→∃ x,wf x∧jI w (enc x).cells cs
theorem mo.int {P:Program} {t:Nat} {k:IntKind} (hu:P.underlying t=some (.int k)):mo P t (D.int k) (fun n=>(Lit.int k n).wf=true):=by
 intro H en w base sp held fuel cs d p h
 cases fuel with
 | zero=>cases h
 | succ fuel =>
  simp only [DataW.trod,hu] at h
  split at h <;> first | (simp_all; done) | skip
  rename_i k' k2 n heq
  simp only [Option.some.injEq,TypeDesc.int.injEq] at heq
  subst heq
  split at h
  ·
   rename_i hc
   obtain ⟨rfl,hw⟩:=hc
   exact ⟨n,hw,.single (.int _ _) rfl rfl⟩
  ·
   cases h
theorem mo.bool {P:Program} {t:Nat} (hu:P.underlying t=some .bool):mo P t D.bool (fun _=>True):=by
 intro H en w base sp held fuel cs d p h
 cases fuel with
 | zero=>cases h
 | succ fuel =>
  simp only [DataW.trod,hu] at h
  split at h <;> first | (simp_all; done) | skip
  rename_i b heq
  exact ⟨b,trivial,.single (.bool _) rfl rfl⟩
theorem qc {w:World} {base:Nat} {a:Addr} {n:Nat} {cs:List Value} (h:w.cells? base a n=some cs):cs.length=n∧∀ j v,cs[j]? = some v→w.cell? (a.add j)=some v:=by
 unfold World.cells? at h
 split at h
 ·
  have hl:=mapM_some_length h
  refine ⟨by simpa using hl,fun j v hj=>?_⟩
  have hlt:j < n:=by have:=(List.getElem?_eq_some_iff.1 hj).1; rw [hl] at this; simpa using this
  have:=mapM_some_get h j j (by simp [hlt])
  rw [this,hj]
 ·
  cases h
theorem mo.slice {P:Program} {t e:Nat} {α:Type} {enc:α→D} {wf:α→Prop} (hu:P.underlying t=some (.slice e)) (he:mo P e enc wf) (hsz:∀ x,(enc x).cells.length=P.cellsOf e) (h0:0 < P.cellsOf e) :
  mo P t (Dq enc) (fun l=>l.length ≤ maxLen∧∀ x ∈ l,wf x):=by
 intro H en w base sp held fuel cs d p h
 cases fuel with
 | zero=>cases h
 | succ fuel =>
  simp only [DataW.trod,hu] at h
  split at h <;> first | (simp_all; done) | skip
  ·
   exact ⟨[],⟨by simp,by simp⟩,.single (.sl0 none 0 false (fun h=>by cases h)) rfl rfl⟩
  ·
   rename_i e' a len cap heq
   simp only [Option.some.injEq,TypeDesc.slice.injEq] at heq
   subst heq
   split at h
   ·
    rename_i hc
    simp only [Option.bind_eq_some_iff] at h
    obtain ⟨els,hels,h⟩:=h
    have hl:=mapM_some_length hels
    have each:∀ i,i < len→∃ x ci,wf x∧w.cells? base (a.add (i * P.cellsOf e)) (P.cellsOf e)=some ci∧jI w (enc x).cells ci:=fun i hi=>by
     have hg:=mapM_some_get hels i i (by simp [hi])
     have hlt:i < els.length:=by rw [hl]; simpa using hi
     rw [List.getElem?_eq_getElem hlt,Option.bind_eq_some_iff] at hg
     obtain ⟨ci,h1,h2⟩:=hg
     obtain ⟨x,hx,hr⟩:=he en w base sp held fuel ci _ _ h2
     exact ⟨x,ci,hx,h1,hr⟩
    by_cases hz:len=0
    ·
     subst hz
     exact ⟨[],⟨by simp,by simp⟩,.single (.sl0 (some a) cap false (fun h=>by cases h)) rfl rfl⟩
    ·
     have hpos:0 < len:=by omega
     have hspot:a.spot=none:=by
      obtain ⟨x,ci,_,h1,_⟩:=each 0 hpos
      obtain ⟨l1,l2⟩:=qc h1
      have hne:0 < ci.length:=by omega
      have:=l2 0 ci[0] (List.getElem?_eq_getElem hne)
      unfold World.cell? at this
      split at this
      ·
       split at this
       ·
        cases this
       ·
        rename_i hs; cases hsp:a.spot with
        | none=>rfl
        | some q=>simp [Addr.add,hsp] at hs
      ·
       cases this
     have:Inhabited α:=⟨(each 0 hpos).choose⟩
     let f:Nat→α:=fun i=>if hi:i < len then (each i hi).choose else default
     let g:Nat→List Value:=fun i=>if hi:i < len then (each i hi).choose_spec.choose else []
     have hfg:∀ i,i < len→wf (f i)∧w.cells? base (a.add (i * P.cellsOf e)) (P.cellsOf e)=some (g i)∧jI w (enc (f i)).cells (g i):=fun i hi=>by
      have:=(each i hi).choose_spec.choose_spec
      simp only [f,g,hi,dif_pos]
      exact this
     let l:=(List.range len).map f
     have hll:l.length=len:=by simp [l]
     have hli:∀ i x,l[i]? = some x→i < len∧x=f i:=fun i x hx=>by
      simp only [l,List.getElem?_map,Option.map_eq_some_iff] at hx
      obtain ⟨j,hj,rfl⟩:=hx
      have:=List.getElem?_eq_some_iff.1 hj
      obtain ⟨h1,h2⟩:=this
      simp at h1 h2
      subst h2
      exact ⟨h1,rfl⟩
     refine ⟨l,⟨by rw [hll]; omega,fun x hx=>?_⟩,?_⟩
     ·
      obtain ⟨i,hi,rfl⟩:=List.getElem_of_mem hx
      obtain ⟨h1,h2⟩:=hli i _ (List.getElem?_eq_getElem hi)
      rw [h2]; exact (hfg i h1).1
     ·
      have ha:a=⟨a.block,a.off,none⟩:=by rw [← hspot]
      refine .single ?_ rfl rfl
      rw [ha]
      have hlm:(l.map enc).length=len:=by simp [hll]
      have key:eY w zD (.sl (l.map enc) false) [.slice (some ⟨a.block,a.off,none⟩) (l.map enc).length cap]:=by
       refine .sl (l.map enc) false a.block a.off cap (P.cellsOf e) g ?_ (by rw [hlm]; exact hc.2.1) (fun h=>by cases h) (fun i x hi=>?_) (fun i hi=>?_) (fun i x hi=>?_) (fun i j v hi hv=>?_)
       ·
        intro q; rw [q] at hlm; simp at hlm; omega
       ·
        rw [List.getElem?_map,Option.map_eq_some_iff] at hi
        obtain ⟨y,_,rfl⟩:=hi
        exact hsz y
       ·
        exact (qc (hfg i (by rw [hlm] at hi; exact hi)).2.1).1
       ·
        rw [List.getElem?_map,Option.map_eq_some_iff] at hi
        obtain ⟨y,hy,rfl⟩:=hi
        obtain ⟨h1,rfl⟩:=hli i y hy
        exact (hfg i h1).2.2.Cb
       ·
        rw [hlm] at hi
        have:=(qc (hfg i hi).2.1).2 j v hv
        refine ⟨?_,fun q=>q⟩
        rw [← this]
        congr 1
        have hz:∀ (b:Addr) (m:Nat),b.spot=none→b.add m=⟨b.block,b.off + m,none⟩:=fun b m hb=>by
         obtain ⟨b1,b2,b3⟩:=b
         cases hb
         cases m <;> simp [Addr.add]
        rw [hz a _ hspot,hz _ j rfl]
      rw [hlm] at key
      exact key
   ·
    cases h
def vg (P:Program) (fs:List Field) (off tot:Nat) {β:Type} (enc:β→List D) (wf:β→Prop):Prop :=
 ∀ {H:Type} (en:TypeId × Value→H) (w:World) (base:Nat) (sp:Nat→Bool) (held:Bool) (fuel:Nat) (cs:List Value) (xs:List (DataW H × List MemPlace)),
  (fs.mapM fun f=>DataW.trod en P w base sp held fuel f.type ((cs.drop f.offset).take (P.cellsOf f.type)))=some xs→∃ y,wf y∧jI w (enc y) ((cs.drop off).take tot)
theorem vg.nil {P:Program} {off:Nat}:vg P [] off 0 (fun _:Unit=>[]) (fun _=>True) :=
 fun en w base sp held fuel cs xs h=>⟨(),trivial,by simpa using jI.nil⟩
theorem vg.cons {P:Program} {f:Field} {fs:List Field} {off sz tot:Nat} {α β:Type} {enc:α→D} {wf:α→Prop} {enc2:β→List D} {wf2:β→Prop}
  (ho:f.offset=off) (hz:P.cellsOf f.type=sz) (h:mo P f.type enc wf) (k:vg P fs (off + sz) tot enc2 wf2) :
  vg P (f :: fs) off (sz + tot) (fun p:α × β=>(enc p.1).cells ++ enc2 p.2) (fun p=>wf p.1∧wf2 p.2):=by
 intro H en w base sp held fuel cs xs hx
 simp only [List.mapM_cons,Option.pure_def,Option.bind_eq_bind,Option.bind_eq_some_iff] at hx
 obtain ⟨x,hx,ys,hys,_⟩:=hx
 rw [ho,hz] at hx
 obtain ⟨a,a1,a2⟩:=h en w base sp held fuel _ x.1 x.2 hx
 obtain ⟨b,b1,b2⟩:=k en w base sp held fuel cs ys hys
 refine ⟨(a,b),⟨a1,b1⟩,?_⟩
 rw [List.take_add,List.drop_drop]
 exact a2.append b2
theorem mo.struct {P:Program} {t tot:Nat} {fs:Array Field} {α β:Type} {enc:α→D} {wf:α→Prop} {enc2:β→List D} {wf2:β→Prop} (hu:P.underlying t=some (.struct fs)) (hz:P.cellsOf t=tot)
  (h:vg P fs.toList 0 tot enc2 wf2) (g:β→α) (hg:∀ y,(enc (g y)).cells=enc2 y) (hw:∀ y,wf2 y→wf (g y)):mo P t enc wf:=by
 intro H en w base sp held fuel cs d p hd
 cases fuel with
 | zero=>cases hd
 | succ fuel =>
  simp only [DataW.trod,hu] at hd
  split at hd
  ·
   rename_i hc
   simp only [Option.map_eq_some_iff] at hd
   obtain ⟨xs,hxs,_⟩:=hd
   obtain ⟨y,y1,y2⟩:=h en w base sp held fuel cs xs hxs
   refine ⟨g y,hw y y1,?_⟩
   rw [hg y]
   rw [hz] at hc
   simpa [← hc] using y2
  ·
   cases hd
theorem BV {P:Program} {t:Nat} {fs:Array Field} {α:Type} {enc:α→D} {wf:α→Prop} (hu:P.underlying t=some (.struct fs)) (O:mo P t enc wf) (ha:∀ x,(enc x).isAgg=true)
  {H:Type} {en:TypeId × Value→H} {w:World} {base b0:Nat} {sp:Nat→Bool} {held:Bool} {v:Value} {d:DataW H} {p:List MemPlace} {r:Reach} (hval:Value.okWide P w r b0 t v) (hd:DataW.Trod en P w base sp held t v d p) :
  ∃ x,wf x∧aU w zD (enc x) v:=by
 unfold Value.okWide at hval
 rw [hu] at hval
 obtain ⟨cs,rfl,_,_⟩:=hval
 obtain ⟨fuel,hf⟩:=hd
 obtain ⟨x,x1,x2⟩:=O en w base sp held fuel _ d p hf
 exact ⟨x,x1,x2.Cb,ha x⟩
theorem CV {P:Program} {t:Nat} {α:Type} {enc:α→D} {wf:α→Prop} (O:mo P t enc wf) (ha:∀ x,(enc x).isAgg=false)
  {H:Type} {en:TypeId × Value→H} {w:World} {base b0:Nat} {sp:Nat→Bool} {held:Bool} {v:Value} {d:DataW H} {p:List MemPlace} (hval:q8 v=false) (hd:DataW.Trod en P w base sp held t v d p) :
  ∃ x,wf x∧aU w zD (enc x) v:=by
 obtain ⟨fuel,hf⟩:=hd
 obtain ⟨x,x1,x2⟩:=O en w base sp held fuel _ d p hf
 exact ⟨x,x1,x2.Cb,by rw [hval]; exact ha x⟩
end
end Go.Ev

namespace Go.Ev
noncomputable section
set_option linter.unusedVariables false
set_option linter.unusedSimpArgs false
variable {R:bf} {C:fq} {P:Program}
theorem eB.rC {f:Nat} {p:Prim} (h:iw R P f p) {args:List AV} {S S':St} {v:AV} (hp:p args S=some (v,S')):eB R P f args S (fun r=>r=(none,v,S')):=by
 obtain ⟨h1,h2⟩:=h.calls args S v S' hp
 refine ⟨h1,fun cx w us q1 q2 q3=>(h2 cx w us q1 q2 q3).mono (fun e w' ⟨cx',k1,k2,u,k3,k4⟩=>⟨_,rfl,cx',k1,k2,u,k3,k4⟩)⟩
theorem aY.CS {f:Nat} {spec:List D→Option AV} (h:iw R P f (ik spec)) {ds:List D} {v:AV} (hv:spec ds=some v):aY R P f ds v:=fun args S ha=>by
 have hp:ik spec (ds.map .d) S=some (v,S):=by
  unfold ik
  rw [yO]
  simp [hv]
 exact (eB.rC h hp).AP ha.BK
theorem wH.CO {fb fs ft:Nat} (h1:iw R P fb rY) (h2:iw R P fs rT) (h3:iw R P ft rP):wH R P fb fs ft where
 wb:=fun S id s c r hS hr=>eB.rC h1 (by
  unfold uq at hr
  split at hr
  ·
   rename_i hc; cases hr
   unfold rY
   simp only [hS]
   rw [if_pos hc]
  ·
   cases hr)
 ws:=fun S id s u r hS hr=>eB.rC h2 (by
  unfold CR at hr
  split at hr
  ·
   rename_i hc; cases hr
   unfold rT
   simp only [hS]
   rw [if_pos hc]
  ·
   cases hr)
 st:=fun S id s hS=>eB.rC h3 (by
  unfold rP
  simp only [hS])
theorem A7 (hR:ObjOk R) {f:Nat} {ds:List D} {x:D} (h:aY R P f ds (.d x)) (w:World) (hG:R.G w (fun _ _=>False)) (us:List Value) (hl:us.length=ds.length)
  (hr:∀ (i:Nat) (y:D) (u:Value),ds[i]? = some y→us[i]? = some u→aU w (fun _ _=>False) y u) :
  Calls P f us.toArray w (fun e w'=>∃ u,e=.returned u∧aU w' (fun _ _=>False) x u∧RowKit.Below w.heap.size w w'):=by
 let cx:Cx:={ bm:=fun _=>0,fp:=fun _ _=>False,tsz:=fun _=>0,tot:=fun _=>0,fr:=fun _ _=>False }
 have hS:aO R cx ax w:=⟨fun id hl=>absurd rfl hl,fun id b hb=>by simp [ax,AL.get] at hb,fun id g cs hb=>by simp [ax,AL.get] at hb,fun id es hb=>by simp [ax,AL.get] at hb,
  fun id k x hb=>by simp [ax,AL.get] at hb,fun id en hb=>by simp [ax,AL.get] at hb,fun id id' b hl=>absurd rfl hl,fun b o q=>q.elim,hG⟩
 have h2:=(h (ds.map .d) ax ⟨ds,yO ds,.refl ds⟩).2
 refine (h2 cx w us hS (by simp [hl]) (fun i y u hy hu=>?_)).mono (fun e w' he=>?_)
 ·
  simp only [List.getElem?_map,Option.map_eq_some_iff] at hy
  obtain ⟨z,hz,rfl⟩:=hy
  exact .d z u (hr i z u hz hu)
 ·
  obtain ⟨r,rfl,cx',k1,k2,k3⟩:=he
  obtain ⟨u,rfl,k3⟩:=k3
  obtain ⟨m1,m2,m3⟩:=uY hR hS k2
  exact ⟨u,rfl,m3 _ _ k3.dd,⟨m2.os,m2.tape,m2.output,m2.size,fun b hb=>(k2.other b hb (fun id hl=>absurd rfl hl)).1⟩⟩
theorem vo (c:UInt8):∀ (s:List UInt8),gG c s=iP c s
 | []=>rfl
 | b :: l=>by rw [gG,iP,vo c l]; rfl
theorem BO {n:Nat} {s sep:List UInt8} {r:List (List UInt8)} (h:strings_Split n s sep=some r):lH [.str s,.str sep]=some (.d (.sl (r.map .str) false)):=by
 unfold strings_Split at h
 split at h
 ·
  split at h
  ·
   rename_i hl; cases h
   unfold lH
   simp only [hl,if_true,vo]
  ·
   cases h
 ·
  cases h
theorem tH:∀ (l:List (List UInt8)),strsOf (l.map .str)=some l
 | []=>rfl
 | x :: l=>by rw [List.map_cons,strsOf,tH l]; rfl
theorem Co {n:Nat} {l:List (List UInt8)} {sep r:List UInt8} (h:strings_Join n l sep=some r):mJ [.sl (l.map .str) false,.str sep]=some (.d (.str r)):=by
 unfold strings_Join at h
 split at h
 ·
  rename_i hl; cases h
  simp only [mJ,tH,hl,and_self,if_true]
 ·
  cases h
end
end Go.Ev

namespace Go.Ev
noncomputable section
set_option linter.unusedVariables false
set_option linter.unusedSimpArgs false
variable {R:bf} {P:Program} {B:St}
def without (S:St) (ids:List Nat):St:=ids.foldl (fun S id=>{ S with H:=S.H.del id,T:=S.T.del id }) S
section
variable {C:fq} {nt:Nat}
section steps
variable {ops:Array Oper} {rest:List Oper} {e:Env} {S S':St} {Q:Stp→Prop} {l l':List dG} {t ty:Nat} {p:String} {af:Array Edge} {g:Option (Nat × Bool)} {x y:Operand} {v:AV}
end steps
end
end
end Go.Ev

namespace Go.Ev
namespace Pr
set_option linter.unusedVariables false
set_option linter.unusedSimpArgs false
structure Seg where
 Kind:Int
 Text:Str
 deriving DecidableEq
def aM (x:Seg):D:=.agg [(.int .i64 x.Kind),(.str x.Text)]
theorem Seg.eq (x:Seg):aM x=.agg [(.int .i64 x.Kind),(.str x.Text)]:=rfl
theorem Seg.cells (x:Seg):(aM x).cells=[(.int .i64 x.Kind),(.str x.Text)]:=by rw [Seg.eq]; rfl
theorem Seg.dX (x:Seg):(AV.d (aM x)).cells=[.d (.int .i64 x.Kind),.d (.str x.Text)]:=by rw [Seg.eq]; rfl
theorem Seg.agg (x:Seg):(aM x).isAgg=true:=by rw [Seg.eq]; rfl
theorem Seg.len (x:Seg):(aM x).cells.length=2:=by rw [Seg.cells]; rfl
theorem Seg.kS {P:Program} {t:Nat} {x:Seg} (ha:fw P t=some true) (hz:aF P t=2):fQ P t (aM x).cells 0=some (aM x):=by
 rw [Seg.cells,uL ha hz rfl,Seg.eq]; rfl
structure bT where
 Kinds:(List Int)
 Texts:(List Int)
 Last:Int
def fZ (x:bT):D:=.agg [(.sl ((x.Kinds).map (D.int .i64)) false),(.sl ((x.Texts).map (D.int .i64)) false),(.int .i64 x.Last)]
theorem bT.eq (x:bT):fZ x=.agg [(.sl ((x.Kinds).map (D.int .i64)) false),(.sl ((x.Texts).map (D.int .i64)) false),(.int .i64 x.Last)]:=rfl
theorem bT.cells (x:bT):(fZ x).cells=[(.sl ((x.Kinds).map (D.int .i64)) false),(.sl ((x.Texts).map (D.int .i64)) false),(.int .i64 x.Last)]:=by rw [bT.eq]; rfl
theorem bT.dX (x:bT):(AV.d (fZ x)).cells=[.d (.sl ((x.Kinds).map (D.int .i64)) false),.d (.sl ((x.Texts).map (D.int .i64)) false),.d (.int .i64 x.Last)]:=by rw [bT.eq]; rfl
theorem bT.agg (x:bT):(fZ x).isAgg=true:=by rw [bT.eq]; rfl
structure aG where
 Name:Str
 Value:Str
 deriving DecidableEq
def av (x:aG):D:=.agg [(.str x.Name),(.str x.Value)]
theorem aG.eq (x:aG):av x=.agg [(.str x.Name),(.str x.Value)]:=rfl
theorem aG.cells (x:aG):(av x).cells=[(.str x.Name),(.str x.Value)]:=by rw [aG.eq]; rfl
theorem aG.dX (x:aG):(AV.d (av x)).cells=[.d (.str x.Name),.d (.str x.Value)]:=by rw [aG.eq]; rfl
theorem aG.agg (x:aG):(av x).isAgg=true:=by rw [aG.eq]; rfl
theorem aG.len (x:aG):(av x).cells.length=2:=by rw [aG.cells]; rfl
theorem aG.kS {P:Program} {t:Nat} {x:aG} (ha:fw P t=some true) (hz:aF P t=2):fQ P t (av x).cells 0=some (av x):=by
 rw [aG.cells,uL ha hz rfl,aG.eq]; rfl
def aG.beq (x y:aG):Bool:=((x.Name == y.Name) && ((x.Value == y.Value) && true))
structure lh where
 Path:(List Str)
 Query:(List aG)
def kH (x:lh):D:=.agg [(.sl ((x.Path).map D.str) false),(.sl ((x.Query).map av) false)]
theorem lh.eq (x:lh):kH x=.agg [(.sl ((x.Path).map D.str) false),(.sl ((x.Query).map av) false)]:=rfl
theorem lh.cells (x:lh):(kH x).cells=[(.sl ((x.Path).map D.str) false),(.sl ((x.Query).map av) false)]:=by rw [lh.eq]; rfl
theorem lh.dX (x:lh):(AV.d (kH x)).cells=[.d (.sl ((x.Path).map D.str) false),.d (.sl ((x.Query).map av) false)]:=by rw [lh.eq]; rfl
structure fE where
 Path:(List Int)
 Names:(List Int)
 Values:(List Int)
def jR (x:fE):D:=.agg [(.sl ((x.Path).map (D.int .i64)) false),(.sl ((x.Names).map (D.int .i64)) false),(.sl ((x.Values).map (D.int .i64)) false)]
theorem fE.eq (x:fE):jR x=.agg [(.sl ((x.Path).map (D.int .i64)) false),(.sl ((x.Names).map (D.int .i64)) false),(.sl ((x.Values).map (D.int .i64)) false)]:=rfl
theorem fE.cells (x:fE):(jR x).cells=[(.sl ((x.Path).map (D.int .i64)) false),(.sl ((x.Names).map (D.int .i64)) false),(.sl ((x.Values).map (D.int .i64)) false)]:=by rw [fE.eq]; rfl
theorem fE.dX (x:fE):(AV.d (jR x)).cells=[.d (.sl ((x.Path).map (D.int .i64)) false),.d (.sl ((x.Names).map (D.int .i64)) false),.d (.sl ((x.Values).map (D.int .i64)) false)]:=by rw [fE.eq]; rfl
theorem fE.agg (x:fE):(jR x).isAgg=true:=by rw [fE.eq]; rfl
def dn (a2:Int) (x7:Int):Option Int :=
 (some (IntKind.wrap .i64 (a2 + x7)))
def bE (n:Nat) (a1:Int) (a2:Int) (a3:Int):Option Int :=
 ((xR .i64 a1 (IntKind.wrap .i64 ((IntKind.wrap .i64 (a3 - a2)) + 1))).bind fun z4=>(if (decide (z4 < 0))=true then (dn a2 ((IntKind.wrap .i64 ((IntKind.wrap .i64 ((IntKind.wrap .i64 (z4 + a3)) - a2)) + 1)))) else (dn a2 (z4))))
def eG (n:Nat) (a1:(List Int)) (a2:Int):Option Int :=
 (if (((a1).length:Int) == 0)=true then (some 0) else ((xR .i64 a2 ((a1).length:Int)).bind fun z4=>((idx a1 z4).bind fun z5=>(some z5))))
def bD (x14:(List Seg)) (x16:Int) (again17:(List Seg)→Int→Option (List Seg)) (z21:Int) (z24:Str) (x37:Str):Option (List Seg) :=
 ((app 24 x14 [(Seg.mk ((Seg.mk z21 z24).Kind) x37)]).bind fun z39=>(again17 (z39) ((IntKind.wrap .i64 (x16 + 1)))))
def bR (x49:(List Seg)):Option (List Seg) :=
 (some x49)
def aI (n:Nat) (a1:bT):Nat→(List Seg)→Int→Option (List Seg)
 | 0,_,_=>none
 | k17 + 1,x14,x16 =>
  (if ((decide (x16 < ((a1.Kinds).length:Int))) && (decide (x16 < 4)))=true then ((idx a1.Kinds x16).bind fun z20=>((bE n z20 0 1).bind fun z21=>((eG n a1.Texts x16).bind fun z22=>((bE n z22 0 (IntKind.wrap .i64 (((([[97],[98],[105,116,101,109],[122],[49],[108,105,115,116]]:List Str)).length:Int) - 1))).bind fun z23=>((idx ([[97],[98],[105,116,101,109],[122],[49],[108,105,115,116]]:List Str) z23).bind fun z24=>(if (((Seg.mk z21 z24).Kind) == 1)=true then ((cat [112] (([(IntKind.wrap .u8 (IntKind.wrap .i64 (48 + x16)))]).map fun (n:Int)=>UInt8.ofNat n.toNat)).bind fun z44=>(bD x14 x16 (aI n a1 k17) z21 z24 (z44))) else (bD x14 x16 (aI n a1 k17) z21 z24 ((Seg.mk z21 z24).Text)))))))) else ((bE n a1.Last 0 5).bind fun z52=>(if ((z52 == 2) || (z52 == 3))=true then ((app 24 x14 [(Seg.mk z52 [108,97,115,116])]).bind fun z55=>(bR (z55))) else (bR (x14)))))
def dx (n:Nat) (a1:bT):Option (List Seg) :=
 (aI n a1 n ([]) (0))
def dS (n:Nat)  : Option (List Str) :=
 (some ([[97],[98],[105,116,101,109],[120,32,121],[37],[97,47,98],[46,46],[122],[49],[108,105,115,116],[255],[63,61,38]]:List Str))
def bq (n:Nat) (a1:fE) (z8:(List Str)) (x21:(List Str)):Nat→(List aG)→Int→Option lh
 | 0,_,_=>none
 | k53 + 1,x50,x52 =>
  (if ((decide (x52 < ((a1.Names).length:Int))) && (decide (x52 < 3)))=true then ((idx a1.Names x52).bind fun z56=>((bE n z56 0 (IntKind.wrap .i64 (((z8).length:Int) - 1))).bind fun z57=>((idx z8 z57).bind fun z58=>((eG n a1.Values x52).bind fun z59=>((bE n z59 0 (IntKind.wrap .i64 (((z8).length:Int) - 1))).bind fun z60=>((idx z8 z60).bind fun z61=>((app 32 x50 [(aG.mk z58 z61)]).bind fun z62=>((bq n a1 z8 x21 k53) (z62) ((IntKind.wrap .i64 (x52 + 1))))))))))) else (some (lh.mk x21 x50)))
def bz (n:Nat) (a1:fE) (z8:(List Str)):Nat→(List Str)→Int→Option lh
 | 0,_,_=>none
 | k24 + 1,x21,x23 =>
  (if ((decide (x23 < ((a1.Path).length:Int))) && (decide (x23 < 5)))=true then ((idx a1.Path x23).bind fun z27=>((bE n z27 0 (IntKind.wrap .i64 (((z8).length:Int) - 1))).bind fun z28=>((idx z8 z28).bind fun z29=>((app 16 x21 [z29]).bind fun z30=>((bz n a1 z8 k24) (z30) ((IntKind.wrap .i64 (x23 + 1)))))))) else (bq n a1 z8 x21 n ([]) (0)))
def dV (n:Nat) (a1:fE):Option lh :=
 ((dS n).bind fun z8=>(bz n a1 z8 n ([]) (0)))
def gZ (n:Nat) (a1:Str):Option Bool :=
 ((if ((!(a1 == [])) && (decide (((a1).length:Int) ≤ 16)))=true then ((iX n a1 [97,98,99,100,101,102,103,104,105,106,107,108,109,110,111,112,113,114,115,116,117,118,119,120,121,122,48,49,50,51,52,53,54,55,56,57]).bind fun z3=>(some (z3 == []))) else some false).bind fun z4=>(some z4))
def fu (n:Nat) (a1:Seg) (a2:Seg):Option Bool :=
 (some ((a1.Kind != 0) && (a1.Text == a2.Text)))
def aJ (a1:(List Seg)) (p2:Seg→Option Bool):Nat→Int→Option Int
 | 0,_=>none
 | k13 + 1,x12 =>
  (if (decide (x12 < ((a1).length:Int)))=true then ((idx a1 x12).bind fun z15=>((p2 z15).bind fun z16=>(if z16=true then (some x12) else ((aJ a1 p2 k13) ((IntKind.wrap .i64 (x12 + 1))))))) else (some (-1)))
def cO (n:Nat) (a1:(List Seg)) (p2:Seg→Option Bool):Option Int :=
 (aJ a1 p2 n (0))
def aX (n:Nat) (a1:(List Seg)) (p2:Seg→Option Bool):Option Bool :=
 ((cO n a1 p2).bind fun z6=>(some (decide (0 ≤ z6))))
def dh (n:Nat) (a1:(List Seg)):Nat→Int→Option Bool
 | 0,_=>none
 | k11 + 1,x10 =>
  (if (decide (x10 < ((a1).length:Int)))=true then ((idx a1 x10).bind fun z13=>((gZ n z13.Text).bind fun z19=>(if (((!z19) || (decide (z13.Kind < 0))) || (decide (3 < z13.Kind)))=true then (some false) else (if ((decide (2 ≤ z13.Kind)) && (!(x10 == (IntKind.wrap .i64 (((a1).length:Int) - 1)))))=true then (some false) else ((if (z13.Kind != 0)=true then ((cut a1 0 x10).bind fun z25=>((aX n z25 (fun y26=>fu n y26 z13)).bind fun z27=>(some z27))) else some false).bind fun z26=>(if z26=true then (some false) else ((dh n a1 k11) ((IntKind.wrap .i64 (x10 + 1)))))))))) else (some true))
def dZ (n:Nat) (a1:(List Seg)):Option Bool :=
 (if (decide (8 < ((a1).length:Int)))=true then (some false) else (dh n a1 n (0)))
def gU (n:Nat) (a1:Int):Option Bool :=
 ((if ((((decide (97 ≤ a1)) && (decide (a1 ≤ 122))) || ((decide (65 ≤ a1)) && (decide (a1 ≤ 90)))) || ((decide (48 ≤ a1)) && (decide (a1 ≤ 57))))=true then some true else ((strings_IndexByte n [45,46,95,126] a1).bind fun z7=>(some (decide (0 ≤ z7))))).bind fun z8=>(some z8))
def fM (x14:Int) (again15:Str→Int→Option Str) (x19:Str):Option Str :=
 (again15 (x19) ((IntKind.wrap .i64 (x14 + 1))))
def bM (n:Nat) (a1:Str):Nat→Str→Int→Option Str
 | 0,_,_=>none
 | k15 + 1,x13,x14 =>
  (if (decide (x14 < ((a1).length:Int)))=true then ((idx (a1:Str) x14).bind fun z21=>((gU n (z21.toNat:Int)).bind fun z22=>(if z22=true then ((uq x13 (z21.toNat:Int)).bind fun z26=>(fM x14 (bM n a1 k15) (z26))) else ((uq x13 37).bind fun z29=>((zC .u8 (z21.toNat:Int) 4).bind fun z30=>((idx ([48,49,50,51,52,53,54,55,56,57,65,66,67,68,69,70]:Str) z30).bind fun z31=>((uq z29 (z31.toNat:Int)).bind fun z34=>((idx ([48,49,50,51,52,53,54,55,56,57,65,66,67,68,69,70]:Str) (Bt .u8 (z21.toNat:Int) 15)).bind fun z35=>((uq z34 (z35.toNat:Int)).bind fun z38=>(fM x14 (bM n a1 k15) (z38))))))))))) else (some x13))
def jS (n:Nat) (a1:Str):Option Str :=
 (bM n a1 n ([]) (0))
def bQ (n:Nat) (a1:(List Str)):Nat→(List Str)→Int→Option Str
 | 0,_,_=>none
 | k14 + 1,x11,x13 =>
  (if (decide (x13 < ((a1).length:Int)))=true then ((idx a1 x13).bind fun z16=>((jS n z16).bind fun z17=>((app 16 x11 [z17]).bind fun z18=>((bQ n a1 k14) (z18) ((IntKind.wrap .i64 (x13 + 1))))))) else ((strings_Join n x11 [47]).bind fun z22=>(some z22)))
def iR (n:Nat) (a1:(List Str)):Option Str :=
 (bQ n a1 n ([]) (0))
def dU (x18:Int) (again19:(List Str)→(List aG)→Int→Option ((List aG) × Bool)) (x23:(List Str)) (x24:(List aG)):Option ((List aG) × Bool) :=
 (again19 (x23) (x24) ((IntKind.wrap .i64 (x18 + 1))))
def bJ (n:Nat) (a1:(List Seg)):Nat→(List Str)→(List aG)→Int→Option ((List aG) × Bool)
 | 0,_,_,_=>none
 | k19 + 1,x15,x16,x18 =>
  (if (decide (x18 < ((a1).length:Int)))=true then ((idx a1 x18).bind fun z27=>(if (z27.Kind == 3)=true then ((iR n x15).bind fun z34=>((app 32 x16 [(aG.mk z27.Text z34)]).bind fun z35=>(some (z35,true)))) else (if (((x15).length:Int) == 0)=true then (if (z27.Kind == 2)=true then (some (x16,true)) else (some ([],false))) else ((idx x15 0).bind fun z44=>((cut x15 1 ((x15).length:Int)).bind fun z45=>(if (z27.Kind != 0)=true then ((app 32 x16 [(aG.mk z27.Text z44)]).bind fun z47=>(dU x18 (bJ n a1 k19) (z45) (z47))) else (if (!(z44 == z27.Text))=true then (some ([],false)) else (dU x18 (bJ n a1 k19) (z45) (x16))))))))) else (if (decide (0 < ((x15).length:Int)))=true then (some ([],false)) else (some (x16,true))))
def eu (n:Nat) (a1:(List Seg)) (a2:(List Str)):Option ((List aG) × Bool) :=
 ((dZ n a1).bind fun z3=>(if (!z3)=true then (some ([],false)) else (bJ n a1 n (a2) ([]) (0))))
def dY (a1:lh) (a2:Str):Nat→Int→Option (Str × Bool)
 | 0,_=>none
 | k14 + 1,x13 =>
  (if (decide (x13 < ((a1.Query).length:Int)))=true then ((idx a1.Query x13).bind fun z16=>(if (z16.Name == a2)=true then (some (z16.Value,true)) else ((dY a1 a2 k14) ((IntKind.wrap .i64 (x13 + 1)))))) else (some ([],false)))
def rD (n:Nat) (a1:lh) (a2:Str):Option (Str × Bool) :=
 (dY a1 a2 n (0))
def gz (n:Nat) (a1:(List aG)) (a2:Str):Option (Str × Bool) :=
 ((rD n (lh.mk [] a1) a2).bind fun z3=>(some (z3.1,z3.2)))
def gy (n:Nat) (a1:Int):Option Int :=
 (if ((decide (48 ≤ a1)) && (decide (a1 ≤ 57)))=true then (some (IntKind.wrap .i64 (IntKind.wrap .u8 (a1 - 48)))) else (if ((decide (97 ≤ a1)) && (decide (a1 ≤ 102)))=true then (some (IntKind.wrap .i64 ((IntKind.wrap .i64 (IntKind.wrap .u8 (a1 - 97))) + 10))) else (if ((decide (65 ≤ a1)) && (decide (a1 ≤ 70)))=true then (some (IntKind.wrap .i64 ((IntKind.wrap .i64 (IntKind.wrap .u8 (a1 - 65))) + 10))) else (some (-1)))))
def eP (x13:Str) (x14:Str) (again15:Str→Str→Option (Str × Bool)) (x20:Int) (x21:Int):Option (Str × Bool) :=
 ((uq x13 x20).bind fun z25=>((cut x14 x21 ((x14).length:Int)).bind fun z26=>(again15 (z25) (z26))))
def bW (n:Nat):Nat→Str→Str→Option (Str × Bool)
 | 0,_,_=>none
 | k15 + 1,x13,x14 =>
  (if (!(x14 == []))=true then ((idx (x14:Str) 0).bind fun z17=>(if ((z17.toNat:Int) == 37)=true then (if (decide (((x14).length:Int) < 3))=true then (some ([],false)) else ((idx (x14:Str) 1).bind fun z29=>((gy n (z29.toNat:Int)).bind fun z30=>((idx (x14:Str) 2).bind fun z31=>((gy n (z31.toNat:Int)).bind fun z32=>(if ((decide (z30 < 0)) || (decide (z32 < 0)))=true then (some ([],false)) else ((zl .i64 z30 4).bind fun z35=>(eP x13 x14 (bW n k15) ((IntKind.wrap .u8 (Cz .i64 z35 z32))) (3))))))))) else ((gU n (z17.toNat:Int)).bind fun z36=>(if (!z36)=true then (some ([],false)) else (eP x13 x14 (bW n k15) ((z17.toNat:Int)) (1)))))) else (some (x13,true)))
def jZ (n:Nat) (a1:Str):Option (Str × Bool) :=
 (bW n n ([]) (a1))
def cB (n:Nat) (z3:(List Str)):Nat→(List Str)→Int→Option ((List Str) × Bool)
 | 0,_,_=>none
 | k16 + 1,x13,x15 =>
  (if (decide (x15 < ((z3).length:Int)))=true then ((idx z3 x15).bind fun z18=>((jZ n z18).bind fun z19=>(if ((!z19.2) || (((x13).length:Int) == 8))=true then (some ([],false)) else ((app 16 x13 [z19.1]).bind fun z22=>((cB n z3 k16) (z22) ((IntKind.wrap .i64 (x15 + 1)))))))) else (some (x13,true)))
def gK (n:Nat) (a1:Str):Option ((List Str) × Bool) :=
 (if (a1 == [])=true then (some ([],true)) else ((strings_Split n a1 [47]).bind fun z3=>(cB n z3 n ([]) (0))))
def dm (x14:Int) (again15:(List Str)→Int→Option ((List Str) × Bool)) (x19:(List Str)):Option ((List Str) × Bool) :=
 (again15 (x19) ((IntKind.wrap .i64 (x14 + 1))))
def aV (n:Nat) (a1:(List Seg)) (a2:(List aG)):Nat→(List Str)→Int→Option ((List Str) × Bool)
 | 0,_,_=>none
 | k15 + 1,x12,x14 =>
  (if (decide (x14 < ((a1).length:Int)))=true then ((idx a1 x14).bind fun z22=>((gz n a2 z22.Text).bind fun z28=>(if (z22.Kind == 0)=true then ((app 16 x12 [z22.Text]).bind fun z30=>(dm x14 (aV n a1 a2 k15) (z30))) else (if (z22.Kind == 1)=true then (if (!z28.2)=true then (some ([],false)) else ((app 16 x12 [z28.1]).bind fun z36=>(dm x14 (aV n a1 a2 k15) (z36)))) else (if (z22.Kind == 2)=true then (if z28.2=true then ((app 16 x12 [z28.1]).bind fun z42=>(dm x14 (aV n a1 a2 k15) (z42))) else (dm x14 (aV n a1 a2 k15) (x12))) else ((gK n z28.1).bind fun z46=>(if ((!z28.2) || (!z46.2))=true then (some ([],false)) else ((app 16 x12 z46.1).bind fun z49=>(dm x14 (aV n a1 a2 k15) (z49)))))))))) else (some (x12,true)))
def iY (n:Nat) (a1:(List Seg)) (a2:(List aG)):Option ((List Str) × Bool) :=
 (aV n a1 a2 n ([]) (0))
def jQ (n:Nat) (a1:Str) (a2:Int):Option Bool :=
 (some ((decide (a2 ≤ ((a1).length:Int))) && (decide (((a1).length:Int) ≤ 64))))
def fD (n:Nat) (a1:lh):Nat→Int→Option Bool
 | 0,_=>none
 | k28 + 1,x27 =>
  (if (decide (x27 < ((a1.Query).length:Int)))=true then ((idx a1.Query x27).bind fun z30=>((jQ n z30.Name 1).bind fun z36=>((if (!z36)=true then some true else ((jQ n z30.Value 0).bind fun z37=>(some (!z37)))).bind fun z38=>(if z38=true then (some false) else ((fD n a1 k28) ((IntKind.wrap .i64 (x27 + 1)))))))) else (some true))
def dP (n:Nat) (a1:lh):Nat→Int→Option Bool
 | 0,_=>none
 | k15 + 1,x14 =>
  (if (decide (x14 < ((a1.Path).length:Int)))=true then ((idx a1.Path x14).bind fun z17=>((jQ n z17 1).bind fun z18=>(if (!z18)=true then (some false) else ((dP n a1 k15) ((IntKind.wrap .i64 (x14 + 1))))))) else (fD n a1 n (0)))
def ll (n:Nat) (a1:lh):Option Bool :=
 (if ((decide (8 < ((a1.Path).length:Int))) || (decide (8 < ((a1.Query).length:Int))))=true then (some false) else (dP n a1 n (0)))
def df (n:Nat) (a1:(List aG)) (a2:(List aG)):Nat→Int→Option Bool
 | 0,_=>none
 | k12 + 1,x11 =>
  (if (decide (x11 < ((a1).length:Int)))=true then ((idx a1 x11).bind fun z14=>((gz n a2 z14.Name).bind fun z20=>(if ((!z20.2) || (!(z20.1 == z14.Value)))=true then (some false) else ((df n a1 a2 k12) ((IntKind.wrap .i64 (x11 + 1))))))) else (some true))
def ig (n:Nat) (a1:(List aG)) (a2:(List aG)):Option Bool :=
 (if (((a1).length:Int) != ((a2).length:Int))=true then (some false) else (df n a1 a2 n (0)))
def dD (n:Nat) (a1:(List Seg)) (a2:(List aG)):Option ((List Str) × Bool) :=
 ((dZ n a1).bind fun z3=>(if (!z3)=true then (some ([],false)) else ((iY n a1 a2).bind fun z5=>((if (!z5.2)=true then some true else ((ll n (lh.mk z5.1 [])).bind fun z6=>(some (!z6)))).bind fun z7=>(if z7=true then (some ([],false)) else ((eu n a1 z5.1).bind fun z10=>((if (!z10.2)=true then some true else ((ig n z10.1 a2).bind fun z11=>(some (!z11)))).bind fun z12=>(if z12=true then (some ([],false)) else (some (z5.1,true))))))))))
def aW (a1:(List Str)) (a2:(List Str)):Nat→Int→Option Bool
 | 0,_=>none
 | k12 + 1,x11 =>
  (if (decide (x11 < ((a1).length:Int)))=true then ((idx a1 x11).bind fun z14=>((idx a2 x11).bind fun z15=>(if (!(z14 == z15))=true then (some false) else ((aW a1 a2 k12) ((IntKind.wrap .i64 (x11 + 1))))))) else (some true))
def bX (n:Nat) (a1:(List Str)) (a2:(List Str)):Option Bool :=
 (if (((a1).length:Int) != ((a2).length:Int))=true then (some false) else (aW a1 a2 n (0)))
def bO (a1:(List aG)) (a2:(List aG)):Nat→Int→Option Bool
 | 0,_=>none
 | k12 + 1,x11 =>
  (if (decide (x11 < ((a1).length:Int)))=true then ((idx a1 x11).bind fun z14=>((idx a2 x11).bind fun z15=>(if (!(aG.beq z14 z15))=true then (some false) else ((bO a1 a2 k12) ((IntKind.wrap .i64 (x11 + 1))))))) else (some true))
def fe (n:Nat) (a1:(List aG)) (a2:(List aG)):Option Bool :=
 (if (((a1).length:Int) != ((a2).length:Int))=true then (some false) else (bO a1 a2 n (0)))
def dJ (n:Nat) (a1:Str) (a2:Str):Option Bool :=
 ((if (decide (((a2).length:Int) ≤ ((a1).length:Int)))=true then ((cut a1 0 ((a2).length:Int)).bind fun z3=>(some (z3 == a2))) else some false).bind fun z4=>(some z4))
def dL (n:Nat) (a1:Str) (a2:Str):Option Bool :=
 ((if (decide (((a2).length:Int) ≤ ((a1).length:Int)))=true then ((cut a1 (IntKind.wrap .i64 (((a1).length:Int) - ((a2).length:Int))) ((a1).length:Int)).bind fun z3=>(some (z3 == a2))) else some false).bind fun z4=>(some z4))
def dM (n:Nat) (a1:Str) (a2:Str):Option (Str × Bool) :=
 ((dJ n a1 a2).bind fun z3=>(if (!z3)=true then (some (a1,false)) else ((cut a1 ((a2).length:Int) ((a1).length:Int)).bind fun z5=>(some (z5,true)))))
def dK (n:Nat) (a1:Str) (a2:Str):Option (Str × Bool) :=
 ((dL n a1 a2).bind fun z3=>(if (!z3)=true then (some (a1,false)) else ((cut a1 0 (IntKind.wrap .i64 (((a1).length:Int) - ((a2).length:Int)))).bind fun z5=>(some (z5,true)))))
def strings_CutPrefix (n:Nat) (a1:Str) (a2:Str):Option (Str × Bool) :=
 ((dM n a1 a2).bind fun z3=>(some (z3.1,z3.2)))
def strings_CutSuffix (n:Nat) (a1:Str) (a2:Str):Option (Str × Bool) :=
 ((dK n a1 a2).bind fun z3=>(some (z3.1,z3.2)))
def jq (n:Nat) (a1:Str):Option Seg :=
 ((strings_CutPrefix n a1 [42]).bind fun z5=>(if z5.2=true then (some (Seg.mk 3 z5.1)) else ((strings_CutPrefix n a1 [58]).bind fun z9=>(if (!z9.2)=true then (some (Seg.mk 0 a1)) else ((strings_CutSuffix n z9.1 [63]).bind fun z13=>(if z13.2=true then (some (Seg.mk 2 z13.1)) else (some (Seg.mk 1 z9.1))))))))
def dF (n:Nat) (z5:(List Str)):Nat→(List Seg)→Int→Option ((List Seg) × Bool)
 | 0,_,_=>none
 | k18 + 1,x15,x17 =>
  (if (decide (x17 < ((z5).length:Int)))=true then ((idx z5 x17).bind fun z20=>(if (((x15).length:Int) == 8)=true then (some ([],false)) else ((jq n z20).bind fun z22=>((app 24 x15 [z22]).bind fun z23=>((dF n z5 k18) (z23) ((IntKind.wrap .i64 (x17 + 1)))))))) else ((dZ n x15).bind fun z27=>(if (!z27)=true then (some ([],false)) else (some (x15,true)))))
def iq (n:Nat) (a1:Str):Option ((List Seg) × Bool) :=
 (if (a1 == [47])=true then (some ([],true)) else ((strings_CutPrefix n a1 [47]).bind fun z3=>(if (!z3.2)=true then (some ([],false)) else ((strings_Split n z3.1 [47]).bind fun z5=>(dF n z5 n ([]) (0))))))
def di (n:Nat)  : Option Bool :=
 ((iq n [47,97,47,58,105,100,47,42,114,101,115,116]).bind fun z1=>((eu n z1.1 ([[97],[55],[120,32,121],[122]]:List Str)).bind fun z2=>((dD n z1.1 [(aG.mk [114,101,115,116] [120,37,50,48,121,47,122]),(aG.mk [105,100] [55])]).bind fun z3=>((dD n z1.1 [(aG.mk [105,100] []),(aG.mk [114,101,115,116] [])]).bind fun z4=>((iq n [47,97,47,58,120,47,58,120]).bind fun z5=>((if (z1.2 && z2.2)=true then ((fe n z2.1 [(aG.mk [105,100] [55]),(aG.mk [114,101,115,116] [120,37,50,48,121,47,122])]).bind fun z7=>(some z7)) else some false).bind fun z8=>((if (z8 && z3.2)=true then ((bX n z3.1 ([[97],[55],[120,32,121],[122]]:List Str)).bind fun z11=>(some z11)) else some false).bind fun z12=>(some ((z12 && (!z4.2)) && (!z5.2))))))))))
def aZ (x25:Int) (again26:(List Str)→Int→Option Bool) (x30:(List Str)):Option Bool :=
 (again26 (x30) ((IntKind.wrap .i64 (x25 + 1))))
def bG (a5:Bool) (z13:(List Str)) (x23:(List Str)) (x25:Int) (again26:(List Str)→Int→Option Bool) (z33:Seg) (x41:Int):Option Bool :=
 (if (z33.Kind == 0)=true then ((app 16 x23 [z33.Text]).bind fun z44=>(aZ x25 again26 (z44))) else (if ((z33.Kind == 1) || ((z33.Kind == 2) && (!a5)))=true then ((idx z13 x41).bind fun z51=>((app 16 x23 [z51]).bind fun z52=>(aZ x25 again26 (z52)))) else (if ((z33.Kind == 3) && (!a5))=true then ((idx z13 x41).bind fun z58=>((xR .i64 (IntKind.wrap .i64 (x41 + 3)) ((z13).length:Int)).bind fun z59=>((idx z13 z59).bind fun z60=>((app 16 x23 [z58,z60]).bind fun z61=>(aZ x25 again26 (z61)))))) else (aZ x25 again26 (x23)))))
def bC (n:Nat) (z108:((List Str) × Bool)) (x111:Bool):Option Bool :=
 ((if ((!z108.2) && (!x111))=true then ((di n).bind fun z119=>(some z119)) else some false).bind fun z120=>(some z120))
def bB (n:Nat) (a2:fE) (z12:(List Seg)) (z108:((List Str) × Bool)) (x111:Bool):Option Bool :=
 ((dV n a2).bind fun z113=>((eu n z12 z113.Path).bind fun z114=>(if z114.2=true then ((dD n z12 z114.1).bind fun z123=>((if (!z123.2)=true then some true else ((bX n z123.1 z113.Path).bind fun z124=>(some (!z124)))).bind fun z125=>(if z125=true then (some false) else (bC n z108 x111)))) else (bC n z108 x111))))
def aB (n:Nat) (a2:fE) (a3:(List Int)) (a4:Int) (a5:Bool) (z12:(List Seg)) (z13:(List Str)):Nat→(List Str)→Int→Option Bool
 | 0,_,_=>none
 | k26 + 1,x23,x25 =>
  (if (decide (x25 < ((z12).length:Int)))=true then ((idx z12 x25).bind fun z33=>(if (decide (x25 < ((a3).length:Int)))=true then ((idx a3 x25).bind fun z69=>((bE n z69 0 (IntKind.wrap .i64 (((z13).length:Int) - 1))).bind fun z70=>(bG a5 z13 x23 x25 (aB n a2 a3 a4 a5 z12 z13 k26) z33 (z70)))) else (bG a5 z13 x23 x25 (aB n a2 a3 a4 a5 z12 z13 k26) z33 (0)))) else ((eu n z12 x23).bind fun z71=>((dZ n z12).bind fun z72=>(if ((!z72) || (!z71.2))=true then (some false) else ((bE n a4 0 ((z71.1).length:Int)).bind fun z75=>((cut z71.1 z75 ((z71.1).length:Int)).bind fun z76=>((cut z71.1 0 z75).bind fun z77=>((app 32 [] z76).bind fun z79=>((app 32 z79 z77).bind fun z83=>((dD n z12 z83).bind fun z94=>((if (!z94.2)=true then some true else ((bX n z94.1 x23).bind fun z95=>(some (!z95)))).bind fun z96=>(if z96=true then (some false) else ((app 32 [] z71.1).bind fun z100=>((app 32 z100 [(aG.mk [110,111,110,101] [49])]).bind fun z104=>((dD n z12 z104).bind fun z108=>(if (decide (0 < ((z71.1).length:Int)))=true then ((idx z71.1 0).bind fun z129=>((app 32 [] z71.1).bind fun z131=>((app 32 z131 [z129]).bind fun z135=>((dD n z12 z135).bind fun z139=>(bB n a2 z12 z108 (z139.2)))))) else (bB n a2 z12 z108 (false))))))))))))))))))
def dB (n:Nat) (a1:bT) (a2:fE) (a3:(List Int)) (a4:Int) (a5:Bool):Option Bool :=
 ((dx n a1).bind fun z12=>((dS n).bind fun z13=>(aB n a2 a3 a4 a5 z12 z13 n ([]) (0))))
end Pr
end Go.Ev

namespace Go.Ev
theorem ae.r {t:Nat} {x:AV} {e2 e:Env} (h:AL.get e t=some x) (k:ae e2 e):ae ((t,x) :: e2) e:=.cons h (.refl _) k
theorem jP.o {x:AV} {a b:List (Option AV)} (k:jP a b):jP (some x :: a) (some x :: b):=.old (.refl _) k
theorem jP.w (x:AV) {a b:List (Option AV)} (k:jP a b):jP (some x :: a) (none :: b):=.new k
theorem jP.n {a b:List (Option AV)} (k:jP a b):jP (none :: a) (none :: b):=.new k
theorem jP.q {x y z u:AV} {a b:List (Option AV)} (k:jP a b):jP (some x :: some y :: some z :: some u :: a) (some x :: some y :: some z :: some u :: b):=.o (.o (.o (.o k)))
theorem jP.m {a b:List (Option AV)} (k:jP a b):jP (none :: none :: none :: none :: a) (none :: none :: none :: none :: b):=.n (.n (.n (.n k)))
theorem RL.v {R:bf} {C:fq} {nt:Nat} {ops:Array Oper} {srcs:List Src} {e0:Env} {ws:List (Option AV)} {S:St} {i:Nat} {o:Oper} {x:AV} {e:Env} {os:List Nat} (ho:ops[i]? = some o) (hx:ws[i]? = some (some x)) (he:kZ ws e0 (srcs.getD i [])=some e) (hw:dC ops e o=some true) (h:oper C (gq e) S o.op=some (.val x S)) (k:RL R C nt ops srcs e0 ws S os):RL R C nt ops srcs e0 ws S (i :: os):=.cons ho hx he (.val hw h (.refl _)) k
theorem Has.sl {B S:St} {l:List dG} (h:Has B S l) (is:List Nat) (hn:decide is.Nodup=true) {l':List dG} (hl:is.map (fun i=>l[i]?)=l'.map some):Has B S l':=h.Ey is (of_decide_eq_true hn) hl
namespace Pr
set_option linter.unusedVariables false
set_option linter.unusedSimpArgs false
open Go.Proofs
noncomputable def cfg:fq:={ P:=Tryd.prog,good:=fun _=>true,rowT:=fun _=>false,prim:=fun _ _ _=>none,objT:=fun t=>bif Nat.beq t 70 then some (1,.str []) else none,hasPrim:=fun _=>false }
theorem D9:(Tryd.f18.name == "runtime.NumGoroutine")=false:=by kernel_rfl
theorem zG:(bI cfg.P 23).isSome=true:=by kernel_rfl
theorem zo:bI cfg.P 23=some 3:=by kernel_rfl
theorem Cs:(fw cfg.P 3).isSome=true:=by kernel_rfl
theorem Cv:aF cfg.P 3=1:=by kernel_rfl
theorem uA:fw cfg.P 3=some false:=by kernel_rfl
theorem Ed:(Tryd.f22.name == "runtime.NumGoroutine")=false:=by kernel_rfl
theorem jY:cfg.rowT 28=false:=by kernel_rfl
theorem fV:bI cfg.P 28=some 9:=by kernel_rfl
theorem kK:fw cfg.P 9=some false:=by kernel_rfl
theorem za:zeroOf cfg.P 9=some (.str []):=by kernel_rfl
theorem jy:aF cfg.P 9=1:=by kernel_rfl
theorem yF:dO cfg.P 25 0=some (0,23):=by kernel_rfl
theorem ui:Nat.beq (aF cfg.P 23) 0=false:=by kernel_rfl
theorem uu:fw cfg.P 23=some false:=by kernel_rfl
theorem um:cfg.P.follows .mixedOrders=true:=by kernel_rfl
theorem Am:dO cfg.P 25 1=some (1,23):=by kernel_rfl
theorem mr:(bI cfg.P 28).isSome=true:=by kernel_rfl
theorem xO:(fw cfg.P 9).isSome=true:=by kernel_rfl
theorem nM:zeroOf cfg.P 47=some (.agg [.int .i64 0,.str []]):=by kernel_rfl
theorem y9:cfg.objT 47=none:=by kernel_rfl
theorem gN:aF cfg.P 47=2:=by kernel_rfl
theorem pE:(fw cfg.P 47).isSome=true:=by kernel_rfl
theorem iT:dO cfg.P 47 0=some (0,3):=by kernel_rfl
theorem yK:Nat.beq (aF cfg.P 3) 0=false:=by kernel_rfl
theorem Eg:(cfg.P.underlying 3).isSome=true:=by kernel_rfl
theorem Ei:yB cfg.P 5=some .u8:=by kernel_rfl
theorem Eb:cfg.rowT 56=false:=by kernel_rfl
theorem Ea:bI cfg.P 56=some 5:=by kernel_rfl
theorem Eu:fw cfg.P 5=some false:=by kernel_rfl
theorem Et:zeroOf cfg.P 5=some (.int .u8 0):=by kernel_rfl
theorem El:aF cfg.P 5=1:=by kernel_rfl
theorem Ee:mR cfg 56=true:=by kernel_rfl
theorem pR:mq cfg.P 9=true:=by kernel_rfl
theorem kP:dO cfg.P 47 1=some (1,9):=by kernel_rfl
theorem xN:Nat.beq (aF cfg.P 9) 0=false:=by kernel_rfl
theorem pO:fw cfg.P 47=some true:=by kernel_rfl
theorem zb:cfg.rowT 22=false:=by kernel_rfl
theorem qM:bI cfg.P 22=some 47:=by kernel_rfl
theorem Ca:gH cfg 22=true:=by kernel_rfl
theorem BN:bytesOf cfg.P 47=24:=by kernel_rfl
theorem Cm:gm cfg 47=true:=by kernel_rfl
theorem BR:dO cfg.P 25 2=some (2,3):=by kernel_rfl
theorem Eo:(Tryd.f6.name == "runtime.NumGoroutine")=false:=by kernel_rfl
theorem Dz:(Tryd.f17.name == "runtime.NumGoroutine")=false:=by kernel_rfl
theorem Cw:cfg.objT 32=none:=by kernel_rfl
theorem Bw:zeroOf cfg.P 32=some (.agg [.bK,.bK]):=by kernel_rfl
theorem AA:dO cfg.P 27 0=some (0,23):=by kernel_rfl
theorem rV:dO cfg.P 32 0=some (0,28):=by kernel_rfl
theorem Bb:Nat.beq (aF cfg.P 28) 0=false:=by kernel_rfl
theorem Ba:fw cfg.P 28=some false:=by kernel_rfl
theorem uz:gH cfg 28=true:=by kernel_rfl
theorem AZ:bytesOf cfg.P 9=16:=by kernel_rfl
theorem A9:gm cfg 9=true:=by kernel_rfl
theorem CX:aF cfg.P 28=1:=by kernel_rfl
theorem Da:(fw cfg.P 28).isSome=true:=by kernel_rfl
theorem Au:dO cfg.P 27 1=some (1,23):=by kernel_rfl
theorem rM:dO cfg.P 32 1=some (1,29):=by kernel_rfl
theorem Ar:Nat.beq (aF cfg.P 29) 0=false:=by kernel_rfl
theorem Bh:fw cfg.P 29=some false:=by kernel_rfl
theorem BL:dO cfg.P 27 2=some (2,23):=by kernel_rfl
theorem j4:zeroOf cfg.P 42=some (.agg [.str [],.str []]):=by kernel_rfl
theorem kJ:cfg.rowT 29=false:=by kernel_rfl
theorem iB:bI cfg.P 29=some 42:=by kernel_rfl
theorem lT:fw cfg.P 42=some true:=by kernel_rfl
theorem eO:aF cfg.P 42=2:=by kernel_rfl
theorem vS:gH cfg 29=true:=by kernel_rfl
theorem vT:bytesOf cfg.P 42=32:=by kernel_rfl
theorem wz:gm cfg 42=true:=by kernel_rfl
theorem Dr:aF cfg.P 29=1:=by kernel_rfl
theorem DX:(fw cfg.P 29).isSome=true:=by kernel_rfl
theorem Cy:fw cfg.P 32=some true:=by kernel_rfl
theorem BP:aF cfg.P 32=2:=by kernel_rfl
theorem DJ:(fw cfg.P 32).isSome=true:=by kernel_rfl
theorem Ew:(Tryd.f7.name == "runtime.NumGoroutine")=false:=by kernel_rfl
theorem Df:(Tryd.f32.name == "runtime.NumGoroutine")=false:=by kernel_rfl
theorem Dl:(Tryd.f33.name == "runtime.NumGoroutine")=false:=by kernel_rfl
theorem wP:(bI cfg.P 22).isSome=true:=by kernel_rfl
theorem Dv:(Tryd.f50.name == "runtime.NumGoroutine")=false:=by kernel_rfl
theorem Db:(Tryd.f34.name == "runtime.NumGoroutine")=false:=by kernel_rfl
theorem Dy:(cfg.P.underlying 47).isSome=true:=by kernel_rfl
theorem Dx:(Tryd.f13.name == "runtime.NumGoroutine")=false:=by kernel_rfl
theorem DT:(Tryd.f55.name == "runtime.NumGoroutine")=false:=by kernel_rfl
theorem CG:cfg.objT 70=some (1,.str []):=by kernel_rfl
theorem D6:(Tryd.f42.name == "runtime.NumGoroutine")=false:=by kernel_rfl
theorem Du:(Tryd.f23.name == "runtime.NumGoroutine")=false:=by kernel_rfl
theorem Dh:(cfg.P.underlying 9).isSome=true:=by kernel_rfl
theorem Ez:(Tryd.f8.name == "runtime.NumGoroutine")=false:=by kernel_rfl
theorem tY:(bI cfg.P 29).isSome=true:=by kernel_rfl
theorem uB:(fw cfg.P 42).isSome=true:=by kernel_rfl
theorem BU:cfg.objT 42=none:=by kernel_rfl
theorem yC:dO cfg.P 42 0=some (0,9):=by kernel_rfl
theorem yo:dO cfg.P 42 1=some (1,9):=by kernel_rfl
theorem Dw:(Tryd.f57.name == "runtime.NumGoroutine")=false:=by kernel_rfl
theorem DW:(Tryd.f45.name == "runtime.NumGoroutine")=false:=by kernel_rfl
theorem Dk:(cfg.P.underlying 5).isSome=true:=by kernel_rfl
theorem Dj:yB cfg.P 3=some .i64:=by kernel_rfl
theorem C8:(Tryd.f74.name == "runtime.NumGoroutine")=false:=by kernel_rfl
theorem Dt:(Tryd.f58.name == "runtime.NumGoroutine")=false:=by kernel_rfl
theorem Di:(Tryd.f46.name == "runtime.NumGoroutine")=false:=by kernel_rfl
theorem DC:(Tryd.f25.name == "runtime.NumGoroutine")=false:=by kernel_rfl
theorem CZ:(Tryd.f47.name == "runtime.NumGoroutine")=false:=by kernel_rfl
theorem Dn:(Tryd.f26.name == "runtime.NumGoroutine")=false:=by kernel_rfl
theorem DV:(Tryd.f27.name == "runtime.NumGoroutine")=false:=by kernel_rfl
theorem Dm:(Tryd.f10.name == "runtime.NumGoroutine")=false:=by kernel_rfl
theorem Dc:(Tryd.f12.name == "runtime.NumGoroutine")=false:=by kernel_rfl
theorem DK:(Tryd.f15.name == "runtime.NumGoroutine")=false:=by kernel_rfl
theorem DD:(Tryd.f67.name == "runtime.NumGoroutine")=false:=by kernel_rfl
theorem DU:(Tryd.f82.name == "runtime.NumGoroutine")=false:=by kernel_rfl
theorem C9:(Tryd.f52.name == "runtime.NumGoroutine")=false:=by kernel_rfl
theorem D5:(Tryd.f71.name == "runtime.NumGoroutine")=false:=by kernel_rfl
theorem D8:(Tryd.f39.name == "runtime.NumGoroutine")=false:=by kernel_rfl
theorem DL:(Tryd.f54.name == "runtime.NumGoroutine")=false:=by kernel_rfl
theorem CY:(Tryd.f41.name == "runtime.NumGoroutine")=false:=by kernel_rfl
theorem nm20:(Tryd.f20.name == "runtime.NumGoroutine")=false:=by kernel_rfl
theorem DR:(Tryd.f16.name == "runtime.NumGoroutine")=false:=by kernel_rfl
theorem D7:fw cfg.P 25=some true:=by kernel_rfl
theorem DI:aF cfg.P 25=3:=by kernel_rfl
theorem Ck:(cfg.P.underlying 42).isSome=true:=by kernel_rfl
theorem De:fw cfg.P 27=some true:=by kernel_rfl
theorem DF:aF cfg.P 27=3:=by kernel_rfl
theorem EA:(Tryd.f4.name == "runtime.NumGoroutine")=false:=by kernel_rfl
theorem eQ:oper.P_place cfg 47=some (sU [(0,1),(1,1)]):=qb (by kernel_rfl)
theorem dz:oper.P_place cfg 42=some (sU [(0,1),(1,1)]):=qb (by kernel_rfl)
theorem mQ:oper.P_place cfg 32=some (sU [(0,1),(1,1)]):=qb (by kernel_rfl)
theorem CF (x y:aG):AV.eqv cfg.P 42 (.d (.agg [(.str x.Name),(.str x.Value)])) (.d (.agg [(.str y.Name),(.str y.Value)]))=some (aG.beq x y) :=
 Af (by kernel_rfl) Tryd.underlying42 (by kernel_rfl) (by kernel_rfl)
def Er:List Src:=[[(1,none)],[(20,some 0)],[(5,none)],[(21,some 1),(22,some 2)],[(23,some 3)],[(24,some 4)],[(3,none)],[(1,none)],[(27,some 7)],[(5,none)],[(28,some 8),(29,some 9)],[(3,none)],[(31,some 11)],[(32,some 12)],[(30,some 10),(33,some 13)],[(26,some 6),(34,some 14)],[(35,some 15)],[(25,some 5),(36,some 16)],[],[(6,some 18),(37,some 17)]]
def Es:List Src:=[[(4,none)],[(19,some 0)],[(3,none)],[(1,none)],[(22,some 3)],[(5,none)],[(23,some 4),(24,some 5)],[(25,some 6)],[(3,none)],[(27,some 8)],[(28,some 9)],[(26,some 7),(29,some 10)],[(21,some 2),(30,some 11)],[(31,some 12)],[(32,some 13)],[(20,some 1),(33,some 14)],[(4,none)],[(34,some 15),(35,some 16)]]
def Ex:List Src:=[[(4,none)],[(47,some 0)],[(3,none)],[(1,none)],[(50,some 3)],[(6,none)],[(51,some 4),(52,some 5)],[(53,some 6)],[(3,none)],[(55,some 8)],[(56,some 9)],[(54,some 7),(57,some 10)],[(49,some 2),(58,some 11)],[(59,some 12)],[(3,none)],[(1,none)],[(62,some 15)],[(6,none)],[(63,some 16),(64,some 17)],[(3,none)],[(66,some 19)],[(67,some 20)],[(65,some 18),(68,some 21)],[(61,some 14),(69,some 22)],[(70,some 23)],[(60,some 13),(71,some 24)],[(72,some 25)],[(48,some 1),(73,some 26)],[(4,none)],[(74,some 27),(75,some 28)]]
def Em:List Src:=[[(6,none)],[(8,none)],[(23,some 1)],[(1,none)],[(25,some 3)],[(24,some 2),(26,some 4)],[(27,some 5)],[(22,some 0),(28,some 6)],[(29,some 7)],[]]
def ED:List Src:=[[(0,none)],[(18,some 0)],[(19,some 1)],[(0,none)],[(21,some 3)],[(22,some 4)],[(20,some 2)],[(23,some 5)]]
def Eh:List Src:=[[(0,none)],[(5,none)],[(17,some 0),(18,some 1)],[(19,some 2)],[(1,none)],[(5,none)],[(21,some 4),(22,some 5)],[(23,some 6)],[(20,some 3),(24,some 7)]]
def En:List Src:=[[(13,none)],[(12,none)],[(16,none)],[(91,some 1),(92,some 2)],[(93,some 3)],[(12,none)],[(16,none)],[(96,some 6)],[(12,none)],[(98,some 8)],[(97,some 7),(99,some 9)],[(95,some 5),(100,some 10)],[(101,some 11)],[(94,some 4),(102,some 12)],[(90,some 0),(103,some 13)],[(104,some 14)]]
def EB:List Src:=[[],[(17,none)],[(19,none)],[(124,some 1),(125,some 2)],[(123,some 0),(126,some 3)],[(17,none)],[(19,none)],[(128,some 5),(129,some 6)],[(127,some 4),(130,some 7)],[(131,some 8)]]
def Ep:List Src:=[[(11,none)],[],[(17,none)],[(162,some 1),(163,some 2)],[(17,none)],[(165,some 4)],[(166,some 5)],[(167,some 6)],[(164,some 3),(168,some 7)],[(161,some 0),(169,some 8)],[(170,some 9)],[(160,some 10)],[(160,some 10)],[(172,some 12)]]
structure CQ (R:bf):Prop where
 obj:jT R cfg
 strings_Split_ok:∀ (n:Nat) (x0:Str) (x1:Str) (r:(List Str)),strings_Split n x0 x1=some r→aY R cfg.P 40 [(.str x0),(.str x1)] (.d (.sl ((r).map D.str) false))
 strings_Join_ok:∀ (n:Nat) (x0:(List Str)) (x1:Str) (r:Str),strings_Join n x0 x1=some r→aY R cfg.P 43 [(.sl ((x0).map D.str) false),(.str x1)] (.d (.str r))
 strings_Trim_ok:∀ (n:Nat) (x0:Str) (x1:Str) (r:Str),iX n x0 x1=some r→aY R cfg.P 49 [(.str x0),(.str x1)] (.d (.str r))
 strings_IndexByte_ok:∀ (n:Nat) (x0:Str) (x1:Int) (r:Int),strings_IndexByte n x0 x1=some r→aY R cfg.P 72 [(.str x0),(.int .u8 x1)] (.d (.int .i64 r))
 bld:wH R cfg.P 36 37 38
section
variable {R:bf} (E:CQ R)
include E
set_option maxRecDepth 20000 in
set_option maxHeartbeats 4000000 in
theorem bA (n:Nat) (a1:Int) (a2:Int) (a3:Int) (r:Int) (h:bE n a1 a2 a3=some r):aY R cfg.P 18 [(.int .i64 a1),(.int .i64 a2),(.int .i64 a3)] (.d (.int .i64 r)):=by
 unfold bE at h
 refine aY.of_wp E.obj.toObjOk (C:=cfg) Tryd.func18 rfl D9 rfl ?_
 have H0:Has ax ax []:=Has.pure
 refine aj.seq ?_
 refine aj.region E.obj rfl ?_
 refine ai.val rfl (ah rfl) rfl ?_
 refine ai.nil ?_
 refine aj.seq ?_
 refine aj.region E.obj rfl ?_
 refine ai.val rfl (aa rfl) rfl ?_
 refine ai.val rfl (aa rfl) rfl ?_
 refine ai.val rfl (aa rfl) rfl ?_
 refine ai.val rfl (ak rfl rfl fA) rfl ?_
 refine ai.val rfl (ak rfl rfl bY) rfl ?_
 obtain ⟨z4,hzz4,h⟩:=bind_some h
 refine ai.val rfl (ak rfl rfl (qh hzz4)) rfl ?_
 refine ai.val rfl (ah rfl) rfl ?_
 refine ai.nil ?_
 refine aj.join (B:=ax) (α:=Int) (fun a=>dn a2 a=some r) (fun a=>[(0,(.d (.int .i64 a))),(1,(.d (.int .i64 a2)))]) (fun a=>[]) ?_ ?_
 ·
  intro x7 S5 H6 h
  replace h:dn a2 x7=some r:=h
  replace H6:Has ax S5 []:=H6
  unfold dn at h
  refine aj.seq ?_
  refine aj.region E.obj rfl ?_
  refine ai.val rfl (aa rfl) rfl ?_
  refine ai.val rfl (aa rfl) rfl ?_
  refine ai.val rfl (ak rfl rfl bY) rfl ?_
  refine ai.val rfl (ah rfl) rfl ?_
  refine ai.nil ?_
  have hr:=Option.some.inj h
  subst hr
  exact aj.ret ⟨_,rfl,rfl,eF (au.eq .nil)⟩
 refine aj.seq ?_
 refine aj.region E.obj rfl ?_
 refine ai.val rfl (aa rfl) rfl ?_
 refine ai.val rfl (ak rfl rfl bV) rfl ?_
 refine ai.nil ?_
 refine aj.cond rfl (fun hb9=>?_) (fun hb9=>?_)
 ·
  replace h:=bL hb9 h
  refine aj.region E.obj rfl ?_
  refine ai.val rfl (aa rfl) rfl ?_
  refine ai.val rfl (aa rfl) rfl ?_
  refine ai.val rfl (ak rfl rfl bY) rfl ?_
  refine ai.val rfl (aa rfl) rfl ?_
  refine ai.val rfl (ak rfl rfl fA) rfl ?_
  refine ai.val rfl (ak rfl rfl bY) rfl ?_
  refine ai.val rfl (ah rfl) rfl ?_
  refine ai.nil ?_
  exact ⟨(IntKind.wrap .i64 ((IntKind.wrap .i64 ((IntKind.wrap .i64 (z4 + a3)) - a2)) + 1)),_,_,ax,.refl _ _,.refl _,(ae.r rfl (ae.r rfl ae.nil)),H0.sl [] rfl rfl,h⟩
 replace h:=bN hb9 h
 refine aj.skip ?_
 exact ⟨z4,_,_,ax,.refl _ _,.refl _,(ae.r rfl (ae.r rfl ae.nil)),H0.sl [] rfl rfl,h⟩
set_option maxRecDepth 20000 in
set_option maxHeartbeats 4000000 in
theorem gY (n:Nat) (a1:(List Int)) (a2:Int) (r:Int) (h:eG n a1 a2=some r):aY R cfg.P 22 [(.sl ((a1).map (D.int .i64)) false),(.int .i64 a2)] (.d (.int .i64 r)):=by
 unfold eG at h
 refine aY.of_wp E.obj.toObjOk (C:=cfg) Tryd.func22 rfl Ed rfl ?_
 have H0:Has ax ax []:=Has.pure
 refine aj.seq ?_
 refine aj.region E.obj rfl ?_
 refine ai.val rfl (ah rfl) rfl ?_
 refine ai.nil ?_
 refine aj.seq ?_
 refine aj.seq ?_
 refine aj.region E.obj rfl ?_
 refine ai.val rfl (aa rfl) rfl ?_
 refine ai.val rfl (aR rfl zG) rfl ?_
 refine ai.val rfl (ak rfl rfl dH) rfl ?_
 refine ai.nil ?_
 refine aj.cond rfl (fun hb3=>?_) (fun hb3=>?_)
 ·
  replace h:=bL hb3 h
  refine aj.seq ?_
  refine aj.region E.obj rfl ?_
  refine ai.val rfl (ah rfl) rfl ?_
  refine ai.nil ?_
  have hr:=Option.some.inj h
  subst hr
  exact aj.ret ⟨_,rfl,rfl,eF (au.eq .nil)⟩
 replace h:=bN hb3 h
 refine aj.skip ?_
 refine aj.seq ?_
 refine aj.region E.obj rfl ?_
 refine ai.val rfl (aa rfl) rfl ?_
 refine ai.val rfl (aa rfl) rfl ?_
 refine ai.val rfl (aa rfl) rfl ?_
 refine ai.val rfl (aR rfl zG) rfl ?_
 obtain ⟨z4,hzz4,h⟩:=bind_some h
 refine ai.val rfl (ak rfl rfl (qh hzz4)) rfl ?_
 obtain ⟨z5,hzz5,h⟩:=bind_some h
 refine ai.val rfl (bF rfl rfl (bU (enc:=(D.int .i64)) hzz5 zo Cs (((fun _=>rfl) _).trans Cv.symm))) rfl ?_
 refine ai.val rfl (aT rfl (cz uA rfl)) rfl ?_
 refine ai.val rfl (ah rfl) rfl ?_
 refine ai.nil ?_
 have hr:=Option.some.inj h
 subst hr
 exact aj.ret ⟨_,rfl,rfl,eF (au.eq .nil)⟩
set_option maxRecDepth 20000 in
set_option maxHeartbeats 4000000 in
theorem jG (n:Nat) (a1:bT) (r:(List Seg)) (h:dx n a1=some r):aY R cfg.P 6 [(fZ a1)] (.d (.sl ((r).map aM) false)):=by
 unfold dx at h
 refine aY.of_wp E.obj.toObjOk (C:=cfg) Tryd.func6 rfl Eo rfl ?_
 have H0:Has ax ax []:=Has.pure
 refine aj.seq ?_
 refine aj.region E.obj rfl ?_
 refine ai.box H0 rfl rfl rfl (bT.dX _) rfl (fun b2 S3 H4=>?_)
 refine ai.val rfl (ah rfl) rfl ?_
 refine ai.nil ?_
 refine aj.seq ?_
 refine aj.region E.obj rfl ?_
 refine ai.val rfl (aL (vs:=[(.d (.str [97])),(.d (.str [98])),(.d (.str [105,116,101,109])),(.d (.str [122])),(.d (.str [49])),(.d (.str [108,105,115,116]))]) (ds:=[(.str [97]),(.str [98]),(.str [105,116,101,109]),(.str [122]),(.str [49]),(.str [108,105,115,116])]) jY fV kK za jy rfl (by decide) (.cons rfl rfl (.cons rfl rfl (.cons rfl rfl (.cons rfl rfl (.cons rfl rfl (.cons rfl rfl .nil)))))) rfl (by intro d hd; simp only [List.mem_cons,List.not_mem_nil,or_false] at hd; rcases hd with rfl | rfl | rfl | rfl | rfl | rfl <;> rfl) rfl) rfl ?_
 refine ai.val rfl (ah rfl) rfl ?_
 refine ai.nil ?_
 refine aj.seq ?_
 refine aj.region E.obj rfl ?_
 refine ai.val rfl (ah rfl) rfl ?_
 refine ai.nil ?_
 refine aj.seq ?_
 refine aj.seq ?_
 refine aj.region E.obj rfl ?_
 refine ai.val rfl (ah rfl) rfl ?_
 refine ai.nil ?_
 refine aj.block ?_
 have H59:=H4.vz
 refine lZ.start (B:=ax) (α:=(List Seg) × AV × Int) (fun k a=>aI n a1 k a.1 a.2.2=some r) (fun a=>[(1,(.ptr b2 0 0)),(3,(.d (.sl ((([[97],[98],[105,116,101,109],[122],[49],[108,105,115,116]]:List Str)).map D.str) true))),(4,a.2.1),(5,(.d (.int .i64 a.2.2)))]) (fun a=>[.box b2 [(.d (.sl ((a1.Kinds).map (D.int .i64)) false)),(.d (.sl ((a1.Texts).map (D.int .i64)) false)),(.d (.int .i64 a1.Last))],.grow a.2.1 ((a.1).map aM)]) ?_ ?_ n ⟨⟨[],(.d .bK),0⟩,_,_,S3,.refl _ _,.refl _,(ae.r rfl (ae.r rfl (ae.r rfl (ae.r rfl ae.nil)))),H59.sl [1,0] rfl rfl,h⟩
 ·
  intro a h; simp [aI] at h
 intro k17 a S12 H13 h
 obtain ⟨x14,v15,x16⟩:=a
 replace h:aI n a1 (k17 + 1) x14 x16=some r:=h
 replace H13:Has ax S12 [.box b2 [(.d (.sl ((a1.Kinds).map (D.int .i64)) false)),(.d (.sl ((a1.Texts).map (D.int .i64)) false)),(.d (.int .i64 a1.Last))],.grow v15 ((x14).map aM)]:=H13
 unfold aI at h
 refine aj.seq ?_
 refine aj.seq ?_
 refine aj.region E.obj rfl ?_
 refine ai.val rfl (aa rfl) rfl ?_
 refine ai.val rfl (az rfl yF ui rfl) rfl ?_
 refine ai.val rfl (aK H13 (i:=0) rfl rfl (aS uu rfl)) rfl ?_
 refine ai.val rfl (aR rfl zG) rfl ?_
 refine ai.val rfl (ak rfl rfl bV) rfl ?_
 refine ai.val rfl (aa rfl) rfl ?_
 refine ai.bP 3 17 (.d (.bool ((decide (x16 < ((a1.Kinds).length:Int))) && (decide (x16 < 4))))) ?_ ?_
 ·
  rcases Bool.eq_false_or_eq_true ((decide (x16 < ((a1.Kinds).length:Int)))) with hB18 | hB18
  ·
   refine ai.bool hB18 ?_
   refine ai.val rfl (aa rfl) rfl ?_
   refine ai.val rfl (ak rfl rfl bV) rfl ?_
   refine ai.val rfl (ay (b:=true) rfl rfl) rfl ?_
   exact ai.nil ⟨_,rfl,(ae.put (ae.push rfl (ae.push rfl (ae.put (.refl _) (Less.eq (by rw [hB18]))))) (Less.eq (by rw [hB18]; rw [Bool.true_and])))⟩
  refine ai.bool hB18 ?_
  refine ai.no rfl rfl ?_
  refine ai.no rfl rfl ?_
  refine ai.val rfl (ay (b:=false) rfl rfl) rfl ?_
  exact ai.nil ⟨_,rfl,(ae.put (ae.push rfl (ae.push rfl (ae.put (.refl _) (Less.eq (by rw [hB18]))))) (Less.eq (by rw [hB18]; rw [Bool.false_and])))⟩
 refine ai.nil ?_
 refine aj.cond rfl (fun hb19=>?_) (fun hb19=>?_)
 ·
  replace h:=bL hb19 h
  refine aj.skip ?_
  refine aj.seq ?_
  refine aj.block ?_
  refine aj.seq ?_
  obtain ⟨z20,hzz20,h⟩:=bind_some h
  obtain ⟨z21,hzz21,h⟩:=bind_some h
  obtain ⟨z22,hzz22,h⟩:=bind_some h
  obtain ⟨z23,hzz23,h⟩:=bind_some h
  obtain ⟨z24,hzz24,h⟩:=bind_some h
  refine aj.nO E.obj um Er [(1,none),(3,none),(4,none),(5,none),(6,some 18)] (by kernel_rfl) [18,19] (by decide) [some (.ptr b2 0 0),some (.d (.sl ((a1.Kinds).map (D.int .i64)) false)),some (.d (.int .i64 x16)),some (.eptr (.int .i64 z20) 0),some (.d (.int .i64 z20)),some (.d (.int .i64 z21)),some (.d (.sl ((([[97],[98],[105,116,101,109],[122],[49],[108,105,115,116]]:List Str)).map D.str) true)),some (.ptr b2 0 1),some (.d (.sl ((a1.Texts).map (D.int .i64)) false)),some (.d (.int .i64 x16)),some (.d (.int .i64 z22)),some (.d (.sl ((([[97],[98],[105,116,101,109],[122],[49],[108,105,115,116]]:List Str)).map D.str) true)),some (.d (.int .i64 ((([[97],[98],[105,116,101,109],[122],[49],[108,105,115,116]]:List Str)).length:Int))),some (.d (.int .i64 (IntKind.wrap .i64 (((([[97],[98],[105,116,101,109],[122],[49],[108,105,115,116]]:List Str)).length:Int) - 1)))),some (.d (.int .i64 z23)),some (.eptr (.str z24) 0),some (.d (.str z24)),some (.d (aM (Seg.mk z21 z24))),none,none] ?_
  refine ⟨[0,1,2,3,4,5,6,7,8,9,10,11,12,13,14,15,16,17],by kernel_rfl,?_,_,_,rfl,rfl,.step ?_⟩
  ·
   refine .v rfl rfl rfl rfl (az rfl yF ui rfl) ?_
   refine .v rfl rfl rfl rfl (aK H13 (i:=0) rfl rfl (aS uu rfl)) ?_
   refine .v rfl rfl rfl rfl (aa rfl) ?_
   refine .v rfl rfl rfl rfl (bF rfl rfl (bU (enc:=(D.int .i64)) hzz20 zo Cs (((fun _=>rfl) _).trans Cv.symm))) ?_
   refine .v rfl rfl rfl rfl (aT rfl (cz uA rfl)) ?_
   refine .cons rfl rfl rfl (.step ?_) ?_
   ·
    refine ai.ret rfl (aA rfl rfl) (bA E _ _ _ _ _ hzz21 _ _ (au.eq (au.eq (au.eq .nil)))) rfl ?_
    exact ai.nil ⟨_,_,rfl,fun _ ht=>by cases ht; exact ⟨rfl,.refl _⟩⟩
   refine .v rfl rfl rfl rfl (aa rfl) ?_
   refine .v rfl rfl rfl rfl (az rfl Am ui rfl) ?_
   refine .v rfl rfl rfl rfl (aK H13 (i:=0) rfl rfl (aS uu rfl)) ?_
   refine .v rfl rfl rfl rfl (aa rfl) ?_
   refine .cons rfl rfl rfl (.step ?_) ?_
   ·
    refine ai.ret rfl (aA rfl rfl) (gY E _ _ _ _ hzz22 _ _ (au.eq (au.eq .nil))) rfl ?_
    exact ai.nil ⟨_,_,rfl,fun _ ht=>by cases ht; exact ⟨rfl,.refl _⟩⟩
   refine .v rfl rfl rfl rfl (aa rfl) ?_
   refine .v rfl rfl rfl rfl (aR rfl mr) ?_
   refine .v rfl rfl rfl rfl (ak rfl rfl fA) ?_
   refine .cons rfl rfl rfl (.step ?_) ?_
   ·
    refine ai.ret rfl (aA rfl rfl) (bA E _ _ _ _ _ hzz23 _ _ (au.eq (au.eq (au.eq .nil)))) rfl ?_
    exact ai.nil ⟨_,_,rfl,fun _ ht=>by cases ht; exact ⟨rfl,.refl _⟩⟩
   refine .v rfl rfl rfl rfl (bF rfl rfl (bU (enc:=D.str) hzz24 fV xO (((fun _=>rfl) _).trans jy.symm))) ?_
   refine .v rfl rfl rfl rfl (aT rfl (cz kK rfl)) ?_
   refine .cons rfl rfl rfl (.step ?_) ?_
   ·
    refine ai.val rfl (cK (cs:=[(.d (.int .i64 z21)),(.d (.str z24))]) nM rfl (eQ) (dW rfl rfl rfl rfl (dW rfl rfl rfl rfl rfl))) rfl ?_
    refine ai.less (Less.agg' (d:=aM (Seg.mk z21 z24)) (aQ.eq rfl (aQ.eq rfl .nil)) ((Seg.eq _).trans rfl)) ?_
    exact ai.nil ⟨_,_,rfl,fun _ ht=>by cases ht; exact ⟨rfl,.refl _⟩⟩
   exact .nil
  refine ai.alloc H13 rfl y9 nM rfl rfl (fun b30 S31 H32=>?_)
  refine ai.nil ⟨_,_,_,rfl,(fun _ ht=>by cases ht; rfl),_,(.q (.q (.q (.q (.o (.o (.w (.ptr b30 0 0) (.n .nil)))))))),(fun _ ht=>by cases ht; exact ⟨_,rfl,.refl _⟩),?_⟩
  refine ⟨[0,1,2,3,4,5,6,7,8,9,10,11,12,13,14,15,16,17],by kernel_rfl,?_,_,_,rfl,rfl,.step ?_⟩
  ·
   refine .v rfl rfl rfl rfl (az rfl yF ui rfl) ?_
   refine .v rfl rfl rfl rfl (aK H32 (i:=1) rfl rfl (aS uu rfl)) ?_
   refine .v rfl rfl rfl rfl (aa rfl) ?_
   refine .v rfl rfl rfl rfl (bF rfl rfl (bU (enc:=(D.int .i64)) hzz20 zo Cs (((fun _=>rfl) _).trans Cv.symm))) ?_
   refine .v rfl rfl rfl rfl (aT rfl (cz uA rfl)) ?_
   refine .cons rfl rfl rfl (.step ?_) ?_
   ·
    refine ai.ret rfl (aA rfl rfl) (bA E _ _ _ _ _ hzz21 _ _ (au.eq (au.eq (au.eq .nil)))) rfl ?_
    exact ai.nil ⟨_,_,rfl,fun _ ht=>by cases ht; exact ⟨rfl,.refl _⟩⟩
   refine .v rfl rfl rfl rfl (aa rfl) ?_
   refine .v rfl rfl rfl rfl (az rfl Am ui rfl) ?_
   refine .v rfl rfl rfl rfl (aK H32 (i:=1) rfl rfl (aS uu rfl)) ?_
   refine .v rfl rfl rfl rfl (aa rfl) ?_
   refine .cons rfl rfl rfl (.step ?_) ?_
   ·
    refine ai.ret rfl (aA rfl rfl) (gY E _ _ _ _ hzz22 _ _ (au.eq (au.eq .nil))) rfl ?_
    exact ai.nil ⟨_,_,rfl,fun _ ht=>by cases ht; exact ⟨rfl,.refl _⟩⟩
   refine .v rfl rfl rfl rfl (aa rfl) ?_
   refine .v rfl rfl rfl rfl (aR rfl mr) ?_
   refine .v rfl rfl rfl rfl (ak rfl rfl fA) ?_
   refine .cons rfl rfl rfl (.step ?_) ?_
   ·
    refine ai.ret rfl (aA rfl rfl) (bA E _ _ _ _ _ hzz23 _ _ (au.eq (au.eq (au.eq .nil)))) rfl ?_
    exact ai.nil ⟨_,_,rfl,fun _ ht=>by cases ht; exact ⟨rfl,.refl _⟩⟩
   refine .v rfl rfl rfl rfl (bF rfl rfl (bU (enc:=D.str) hzz24 fV xO (((fun _=>rfl) _).trans jy.symm))) ?_
   refine .v rfl rfl rfl rfl (aT rfl (cz kK rfl)) ?_
   refine .cons rfl rfl rfl (.step ?_) ?_
   ·
    refine ai.val rfl (cK (cs:=[(.d (.int .i64 z21)),(.d (.str z24))]) nM rfl (eQ) (dW rfl rfl rfl rfl (dW rfl rfl rfl rfl rfl))) rfl ?_
    refine ai.less (Less.agg' (d:=aM (Seg.mk z21 z24)) (aQ.eq rfl (aQ.eq rfl .nil)) ((Seg.eq _).trans rfl)) ?_
    exact ai.nil ⟨_,_,rfl,fun _ ht=>by cases ht; exact ⟨rfl,.refl _⟩⟩
   exact .nil
  refine ai.store H32 (i:=0) rfl rfl rfl rfl (Seg.dX _) rfl gN rfl pE rfl rfl rfl (fun S33 H34=>?_)
  refine ai.nil ⟨_,.any,_,rfl,(fun _ ht=>by cases ht),_,(.q (.q (.q (.q (.o (.o (.o (.w .any .nil)))))))),(fun _ ht=>by cases ht),?_⟩
  refine ⟨[],by kernel_rfl,?_,_,rfl,?_⟩
  ·
   exact .nil
  refine aj.join (B:=ax) (α:=Str) (fun a=>bD x14 x16 (aI n a1 k17) z21 z24 a=some r) (fun a=>[(1,(.ptr b2 0 0)),(3,(.d (.sl ((([[97],[98],[105,116,101,109],[122],[49],[108,105,115,116]]:List Str)).map D.str) true))),(4,v15),(5,(.d (.int .i64 x16))),(6,(.ptr b30 0 0))]) (fun a=>[.box b30 [(.d (.int .i64 (Seg.mk z21 z24).Kind)),(.d (.str a))],.box b2 [(.d (.sl ((a1.Kinds).map (D.int .i64)) false)),(.d (.sl ((a1.Texts).map (D.int .i64)) false)),(.d (.int .i64 a1.Last))],.grow v15 ((x14).map aM)]) ?_ ?_
  ·
   intro x37 S35 H36 h
   replace h:bD x14 x16 (aI n a1 k17) z21 z24 x37=some r:=h
   replace H36:Has ax S35 [.box b30 [(.d (.int .i64 (Seg.mk z21 z24).Kind)),(.d (.str x37))],.box b2 [(.d (.sl ((a1.Kinds).map (D.int .i64)) false)),(.d (.sl ((a1.Texts).map (D.int .i64)) false)),(.d (.int .i64 a1.Last))],.grow v15 ((x14).map aM)]:=H36
   unfold bD at h
   refine aj.region E.obj rfl ?_
   refine ai.val rfl (aa rfl) rfl ?_
   refine ai.val rfl (aK H36 (i:=0) rfl rfl (iW pO gN rfl)) rfl ?_
   refine ai.less (Less.agg' (d:=aM (Seg.mk ((Seg.mk z21 z24).Kind) x37)) (aQ.eq rfl (aQ.eq rfl .nil)) ((Seg.eq _).trans rfl)) ?_
   refine ai.val rfl (aL (vs:=[(.d (aM (Seg.mk ((Seg.mk z21 z24).Kind) x37)))]) (ds:=[(aM (Seg.mk ((Seg.mk z21 z24).Kind) x37))]) zb qM pO nM gN rfl (by decide) (.cons rfl (Seg.len _) .nil) rfl (by intro d hd; simp only [List.mem_cons,List.not_mem_nil,or_false] at hd; rcases hd with rfl <;> exact Seg.agg _) rfl) rfl ?_
   obtain ⟨z39,hzz39,h⟩:=bind_some h
   refine ai.append (xs:=(x14).map aM) (ys:=([(Seg.mk ((Seg.mk z21 z24).Kind) x37)]).map aM) (zs:=(z39).map aM) H36 rfl rfl rfl (i:=2) rfl rfl zb Ca qM (cu hzz39) BN rfl (aN (enc:=aM) (fun z=>(Seg.len z).trans gN.symm) _) (aN (enc:=aM) (fun z=>(Seg.len z).trans gN.symm) _) Cm rfl (eZ hzz39) (fun v40 S41 H42=>?_)
   refine ai.val rfl (ah rfl) rfl ?_
   refine ai.nil ?_
   refine aj.region E.obj rfl ?_
   refine ai.val rfl (aa rfl) rfl ?_
   refine ai.val rfl (ak rfl rfl bY) rfl ?_
   refine ai.val rfl (ah rfl) rfl ?_
   refine ai.nil ?_
   exact ⟨⟨z39,v40,(IntKind.wrap .i64 (x16 + 1))⟩,_,_,S41,.refl _ _,.refl _,(ae.r rfl (ae.r rfl (ae.r rfl (ae.r rfl ae.nil)))),H42.sl [1,2] rfl rfl,h⟩
  refine aj.seq ?_
  refine aj.region E.obj rfl ?_
  refine ai.val rfl (az rfl iT yK rfl) rfl ?_
  refine ai.val rfl (aK H34 (i:=0) rfl rfl (aS uA rfl)) rfl ?_
  refine ai.val rfl (ak rfl rfl dH) rfl ?_
  refine ai.nil ?_
  refine aj.cond rfl (fun hb43=>?_) (fun hb43=>?_)
  ·
   replace h:=bL hb43 h
   refine aj.region E.obj rfl ?_
   refine ai.val rfl (aa rfl) rfl ?_
   refine ai.val rfl (ak rfl rfl bY) rfl ?_
   refine ai.val rfl (il rfl Eg Ei) rfl ?_
   refine ai.val rfl (aL (vs:=[(.d (.int .u8 (IntKind.wrap .u8 (IntKind.wrap .i64 (48 + x16)))))]) (ds:=[(.int .u8 (IntKind.wrap .u8 (IntKind.wrap .i64 (48 + x16))))]) Eb Ea Eu Et El rfl (by decide) (.cons rfl rfl .nil) rfl (by intro d hd; simp only [List.mem_cons,List.not_mem_nil,or_false] at hd; rcases hd with rfl <;> rfl) rfl) rfl ?_
   refine ai.val rfl (qQ (l:=[(IntKind.wrap .u8 (IntKind.wrap .i64 (48 + x16)))]) rfl pR Ee) rfl ?_
   obtain ⟨z44,hzz44,h⟩:=bind_some h
   refine ai.val rfl (ak rfl rfl (zh hzz44)) rfl ?_
   refine ai.val rfl (az rfl kP xN rfl) rfl ?_
   refine ai.store H34 (i:=0) rfl rfl rfl rfl rfl rfl jy rfl xO rfl rfl rfl (fun S45 H46=>?_)
   refine ai.nil ?_
   exact ⟨z44,_,_,S45,.refl _ _,.refl _,(ae.r rfl (ae.r rfl (ae.r rfl (ae.r rfl (ae.r rfl ae.nil))))),H46.sl [0,1,2] rfl rfl,h⟩
  replace h:=bN hb43 h
  refine aj.skip ?_
  exact ⟨(Seg.mk z21 z24).Text,_,_,S33,.refl _ _,.refl _,(ae.r rfl (ae.r rfl (ae.r rfl (ae.r rfl (ae.r rfl ae.nil))))),H34.sl [0,1,2] rfl rfl,h⟩
 replace h:=bN hb19 h
 refine aj.exit ?_
 refine aj.join (B:=ax) (α:=(List Seg) × AV) (fun a=>bR a.1=some r) (fun a=>[(4,a.2)]) (fun a=>[.grow a.2 ((a.1).map aM)]) ?_ ?_
 ·
  intro a S47 H48 h
  obtain ⟨x49,v50⟩:=a
  replace h:bR x49=some r:=h
  replace H48:Has ax S47 [.grow v50 ((x49).map aM)]:=H48
  unfold bR at h
  refine aj.seq ?_
  refine aj.region E.obj rfl ?_
  refine ai.val rfl (aa rfl) rfl ?_
  refine ai.val rfl (ah rfl) rfl ?_
  refine ai.nil ?_
  have hr:=Option.some.inj h
  subst hr
  exact aj.ret ⟨_,rfl,rfl,eF (au.grow H48 (i:=0) rfl .nil)⟩
 refine aj.seq ?_
 refine aj.region E.obj rfl ?_
 refine ai.val rfl (az rfl BR yK rfl) rfl ?_
 refine ai.val rfl (aK H13 (i:=0) rfl rfl (aS uA rfl)) rfl ?_
 obtain ⟨z52,hzz52,h⟩:=bind_some h
 refine ai.ret rfl (aA rfl rfl) (bA E _ _ _ _ _ hzz52 _ _ (au.eq (au.eq (au.eq .nil)))) rfl ?_
 refine ai.val rfl (ah rfl) rfl ?_
 refine ai.nil ?_
 refine aj.seq ?_
 refine aj.region E.obj rfl ?_
 refine ai.val rfl (aa rfl) rfl ?_
 refine ai.val rfl (ak rfl rfl dH) rfl ?_
 refine ai.val rfl (aa rfl) rfl ?_
 refine ai.bP 3 60 (.d (.bool ((z52 == 2) || (z52 == 3)))) ?_ ?_
 ·
  rcases Bool.eq_false_or_eq_true ((z52 == 2)) with hB53 | hB53
  ·
   refine ai.bool hB53 ?_
   refine ai.no rfl rfl ?_
   refine ai.no rfl rfl ?_
   refine ai.val rfl (ay (b:=true) rfl rfl) rfl ?_
   exact ai.nil ⟨_,rfl,(ae.put (ae.push rfl (ae.push rfl (ae.put (.refl _) (Less.eq (by rw [hB53]))))) (Less.eq (by rw [hB53]; rw [Bool.true_or])))⟩
  refine ai.bool hB53 ?_
  refine ai.val rfl (aa rfl) rfl ?_
  refine ai.val rfl (ak rfl rfl dH) rfl ?_
  refine ai.val rfl (ay (b:=false) rfl rfl) rfl ?_
  exact ai.nil ⟨_,rfl,(ae.put (ae.push rfl (ae.push rfl (ae.put (.refl _) (Less.eq (by rw [hB53]))))) (Less.eq (by rw [hB53]; rw [Bool.false_or])))⟩
 refine ai.nil ?_
 refine aj.cond rfl (fun hb54=>?_) (fun hb54=>?_)
 ·
  replace h:=bL hb54 h
  refine aj.region E.obj rfl ?_
  refine ai.val rfl (aa rfl) rfl ?_
  refine ai.val rfl (aa rfl) rfl ?_
  refine ai.val rfl (cK (cs:=[(.d (.int .i64 z52)),(.d (.str [108,97,115,116]))]) nM rfl (eQ) (dW rfl rfl rfl rfl (dW rfl rfl rfl rfl rfl))) rfl ?_
  refine ai.less (Less.agg' (d:=aM (Seg.mk z52 [108,97,115,116])) (aQ.eq rfl (aQ.eq rfl .nil)) ((Seg.eq _).trans rfl)) ?_
  refine ai.val rfl (aL (vs:=[(.d (aM (Seg.mk z52 [108,97,115,116])))]) (ds:=[(aM (Seg.mk z52 [108,97,115,116]))]) zb qM pO nM gN rfl (by decide) (.cons rfl (Seg.len _) .nil) rfl (by intro d hd; simp only [List.mem_cons,List.not_mem_nil,or_false] at hd; rcases hd with rfl <;> exact Seg.agg _) rfl) rfl ?_
  obtain ⟨z55,hzz55,h⟩:=bind_some h
  refine ai.append (xs:=(x14).map aM) (ys:=([(Seg.mk z52 [108,97,115,116])]).map aM) (zs:=(z55).map aM) H13 rfl rfl rfl (i:=1) rfl rfl zb Ca qM (cu hzz55) BN rfl (aN (enc:=aM) (fun z=>(Seg.len z).trans gN.symm) _) (aN (enc:=aM) (fun z=>(Seg.len z).trans gN.symm) _) Cm rfl (eZ hzz55) (fun v56 S57 H58=>?_)
  refine ai.val rfl (ah rfl) rfl ?_
  refine ai.nil ?_
  exact ⟨⟨z55,v56⟩,_,_,S57,.refl _ _,.refl _,(ae.r rfl ae.nil),H58.sl [1] rfl rfl,h⟩
 replace h:=bN hb54 h
 refine aj.skip ?_
 exact ⟨⟨x14,v15⟩,_,_,S12,.refl _ _,.refl _,(ae.r rfl ae.nil),H13.sl [1] rfl rfl,h⟩
set_option maxRecDepth 20000 in
set_option maxHeartbeats 4000000 in
theorem jh (n:Nat)  (r:(List Str)) (h:dS n  = some r):aY R cfg.P 17 [] (.d (.sl ((r).map D.str) false)):=by
 unfold dS at h
 refine aY.of_wp E.obj.toObjOk (C:=cfg) Tryd.func17 rfl Dz rfl ?_
 have H0:Has ax ax []:=Has.pure
 refine aj.seq ?_
 refine aj.region E.obj rfl ?_
 refine ai.val rfl (ah rfl) rfl ?_
 refine ai.nil ?_
 refine aj.seq ?_
 refine aj.region E.obj rfl ?_
 refine ai.val rfl (aL (vs:=[(.d (.str [97])),(.d (.str [98])),(.d (.str [105,116,101,109])),(.d (.str [120,32,121])),(.d (.str [37])),(.d (.str [97,47,98])),(.d (.str [46,46])),(.d (.str [122])),(.d (.str [49])),(.d (.str [108,105,115,116])),(.d (.str [255])),(.d (.str [63,61,38]))]) (ds:=[(.str [97]),(.str [98]),(.str [105,116,101,109]),(.str [120,32,121]),(.str [37]),(.str [97,47,98]),(.str [46,46]),(.str [122]),(.str [49]),(.str [108,105,115,116]),(.str [255]),(.str [63,61,38])]) jY fV kK za jy rfl (by decide) (.cons rfl rfl (.cons rfl rfl (.cons rfl rfl (.cons rfl rfl (.cons rfl rfl (.cons rfl rfl (.cons rfl rfl (.cons rfl rfl (.cons rfl rfl (.cons rfl rfl (.cons rfl rfl (.cons rfl rfl .nil)))))))))))) rfl (by intro d hd; simp only [List.mem_cons,List.not_mem_nil,or_false] at hd; rcases hd with rfl | rfl | rfl | rfl | rfl | rfl | rfl | rfl | rfl | rfl | rfl | rfl <;> rfl) rfl) rfl ?_
 refine ai.val rfl (ah rfl) rfl ?_
 refine ai.nil ?_
 have hr:=Option.some.inj h
 subst hr
 exact aj.ret ⟨_,rfl,rfl,eF (au.fF rfl (.l5 _ _) .nil)⟩
set_option maxRecDepth 20000 in
set_option maxHeartbeats 4000000 in
theorem l8 (n:Nat) (a1:fE) (r:lh) (h:dV n a1=some r):aY R cfg.P 7 [(jR a1)] (.d (kH r)):=by
 unfold dV at h
 refine aY.of_wp E.obj.toObjOk (C:=cfg) Tryd.func7 rfl Ew rfl ?_
 have H0:Has ax ax []:=Has.pure
 refine aj.seq ?_
 refine aj.region E.obj rfl ?_
 refine ai.box H0 rfl rfl rfl (fE.dX _) rfl (fun b2 S3 H4=>?_)
 refine ai.alloc H4 rfl Cw Bw rfl rfl (fun b5 S6 H7=>?_)
 refine ai.nil ?_
 refine aj.seq ?_
 refine aj.region E.obj rfl ?_
 obtain ⟨z8,hzz8,h⟩:=bind_some h
 refine ai.ret rfl (aA rfl rfl) (jh E _  _ hzz8 _ _ .nil) rfl ?_
 refine ai.val rfl (ah rfl) rfl ?_
 refine ai.nil ?_
 refine aj.seq ?_
 refine aj.region E.obj rfl ?_
 refine ai.alloc H7 rfl Cw Bw rfl rfl (fun b9 S10 H11=>?_)
 refine ai.nil ?_
 refine aj.seq ?_
 refine aj.seq ?_
 refine aj.region E.obj rfl ?_
 refine ai.val rfl (ah rfl) rfl ?_
 refine ai.nil ?_
 refine aj.block ?_
 have H76:=H11.vz
 refine lZ.start (B:=ax) (α:=(List Str) × AV × Int) (fun k a=>bz n a1 z8 k a.1 a.2.2=some r) (fun a=>[(1,(.ptr b2 0 0)),(2,(.ptr b5 0 0)),(3,(.d (.sl ((z8).map D.str) false))),(4,(.ptr b9 0 0)),(5,(.d (.int .i64 a.2.2)))]) (fun a=>[.box b9 [a.2.1,(.d .bK)],.box b5 [(.d .bK),(.d .bK)],.box b2 [(.d (.sl ((a1.Path).map (D.int .i64)) false)),(.d (.sl ((a1.Names).map (D.int .i64)) false)),(.d (.sl ((a1.Values).map (D.int .i64)) false))],.grow a.2.1 ((a.1).map D.str)]) ?_ ?_ n ⟨⟨[],(.d .bK),0⟩,_,_,S10,.refl _ _,.refl _,(ae.r rfl (ae.r rfl (ae.r rfl (ae.r rfl (ae.r rfl ae.nil))))),H76.sl [1,2,3,0] rfl rfl,h⟩
 ·
  intro a h; simp [bz] at h
 intro k24 a S19 H20 h
 obtain ⟨x21,v22,x23⟩:=a
 replace h:bz n a1 z8 (k24 + 1) x21 x23=some r:=h
 replace H20:Has ax S19 [.box b9 [v22,(.d .bK)],.box b5 [(.d .bK),(.d .bK)],.box b2 [(.d (.sl ((a1.Path).map (D.int .i64)) false)),(.d (.sl ((a1.Names).map (D.int .i64)) false)),(.d (.sl ((a1.Values).map (D.int .i64)) false))],.grow v22 ((x21).map D.str)]:=H20
 unfold bz at h
 refine aj.seq ?_
 refine aj.seq ?_
 refine aj.region E.obj rfl ?_
 refine ai.val rfl (aa rfl) rfl ?_
 refine ai.val rfl (az rfl AA ui rfl) rfl ?_
 refine ai.val rfl (aK H20 (i:=2) rfl rfl (aS uu rfl)) rfl ?_
 refine ai.val rfl (aR rfl zG) rfl ?_
 refine ai.val rfl (ak rfl rfl bV) rfl ?_
 refine ai.val rfl (aa rfl) rfl ?_
 refine ai.bP 3 16 (.d (.bool ((decide (x23 < ((a1.Path).length:Int))) && (decide (x23 < 5))))) ?_ ?_
 ·
  rcases Bool.eq_false_or_eq_true ((decide (x23 < ((a1.Path).length:Int)))) with hB25 | hB25
  ·
   refine ai.bool hB25 ?_
   refine ai.val rfl (aa rfl) rfl ?_
   refine ai.val rfl (ak rfl rfl bV) rfl ?_
   refine ai.val rfl (ay (b:=true) rfl rfl) rfl ?_
   exact ai.nil ⟨_,rfl,(ae.put (ae.push rfl (ae.push rfl (ae.put (.refl _) (Less.eq (by rw [hB25]))))) (Less.eq (by rw [hB25]; rw [Bool.true_and])))⟩
  refine ai.bool hB25 ?_
  refine ai.no rfl rfl ?_
  refine ai.no rfl rfl ?_
  refine ai.val rfl (ay (b:=false) rfl rfl) rfl ?_
  exact ai.nil ⟨_,rfl,(ae.put (ae.push rfl (ae.push rfl (ae.put (.refl _) (Less.eq (by rw [hB25]))))) (Less.eq (by rw [hB25]; rw [Bool.false_and])))⟩
 refine ai.nil ?_
 refine aj.cond rfl (fun hb26=>?_) (fun hb26=>?_)
 ·
  replace h:=bL hb26 h
  refine aj.skip ?_
  refine aj.seq ?_
  refine aj.block ?_
  obtain ⟨z27,hzz27,h⟩:=bind_some h
  obtain ⟨z28,hzz28,h⟩:=bind_some h
  obtain ⟨z29,hzz29,h⟩:=bind_some h
  obtain ⟨z30,hzz30,h⟩:=bind_some h
  refine aj.nO E.obj um Es [(1,none),(2,none),(3,none),(4,none),(5,none)] (by kernel_rfl) [15,17] (by decide) [some (.ptr b9 0 0),some v22,some (.d (.sl ((z8).map D.str) false)),some (.ptr b2 0 0),some (.d (.sl ((a1.Path).map (D.int .i64)) false)),some (.d (.int .i64 x23)),some (.eptr (.int .i64 z27) 0),some (.d (.int .i64 z27)),some (.d (.sl ((z8).map D.str) false)),some (.d (.int .i64 ((z8).length:Int))),some (.d (.int .i64 (IntKind.wrap .i64 (((z8).length:Int) - 1)))),some (.d (.int .i64 z28)),some (.eptr (.str z29) 0),some (.d (.str z29)),some (.d (.sl (([z29]).map D.str) true)),none,none,none] ?_
  refine ⟨[0,1,2,3,4,5,6,7,8,9,10,11,12,13,14],by kernel_rfl,?_,_,_,rfl,rfl,.step ?_⟩
  ·
   refine .v rfl rfl rfl rfl (az rfl rV Bb rfl) ?_
   refine .v rfl rfl rfl rfl (aK H20 (i:=0) rfl rfl (aS Ba rfl)) ?_
   refine .v rfl rfl rfl rfl (aa rfl) ?_
   refine .v rfl rfl rfl rfl (az rfl AA ui rfl) ?_
   refine .v rfl rfl rfl rfl (aK H20 (i:=2) rfl rfl (aS uu rfl)) ?_
   refine .v rfl rfl rfl rfl (aa rfl) ?_
   refine .v rfl rfl rfl rfl (bF rfl rfl (bU (enc:=(D.int .i64)) hzz27 zo Cs (((fun _=>rfl) _).trans Cv.symm))) ?_
   refine .v rfl rfl rfl rfl (aT rfl (cz uA rfl)) ?_
   refine .v rfl rfl rfl rfl (aa rfl) ?_
   refine .v rfl rfl rfl rfl (aR rfl mr) ?_
   refine .v rfl rfl rfl rfl (ak rfl rfl fA) ?_
   refine .cons rfl rfl rfl (.step ?_) ?_
   ·
    refine ai.ret rfl (aA rfl rfl) (bA E _ _ _ _ _ hzz28 _ _ (au.eq (au.eq (au.eq .nil)))) rfl ?_
    exact ai.nil ⟨_,_,rfl,fun _ ht=>by cases ht; exact ⟨rfl,.refl _⟩⟩
   refine .v rfl rfl rfl rfl (bF rfl rfl (bU (enc:=D.str) hzz29 fV xO (((fun _=>rfl) _).trans jy.symm))) ?_
   refine .v rfl rfl rfl rfl (aT rfl (cz kK rfl)) ?_
   refine .v rfl rfl rfl rfl (aL (vs:=[(.d (.str z29))]) (ds:=[(.str z29)]) jY fV kK za jy rfl (by decide) (.cons rfl rfl .nil) rfl (by intro d hd; simp only [List.mem_cons,List.not_mem_nil,or_false] at hd; rcases hd with rfl <;> rfl) rfl) ?_
   exact .nil
  refine ai.append (xs:=(x21).map D.str) (ys:=([z29]).map D.str) (zs:=(z30).map D.str) H20 rfl rfl rfl (i:=3) rfl rfl jY uz fV (cu hzz30) AZ rfl (aN (enc:=D.str) (fun _=>jy.symm) _) (aN (enc:=D.str) (fun _=>jy.symm) _) A9 rfl (eZ hzz30) (fun v36 S37 H38=>?_)
  refine ai.nil ⟨_,_,_,rfl,(fun _ ht=>by cases ht; rfl),_,(.q (.q (.q (.o (.o (.o (.w v36 (.w (.ptr b9 0 0) (.n .nil))))))))),(fun _ ht=>by cases ht; exact ⟨_,rfl,.refl _⟩),?_⟩
  refine ⟨[16],by kernel_rfl,?_,_,_,rfl,rfl,.step ?_⟩
  ·
   refine .v rfl rfl rfl rfl (az rfl rV Bb rfl) ?_
   exact .nil
  refine ai.store H38 (i:=0) rfl rfl rfl rfl (oJ (H38.at (i:=3) rfl)).2.2.2.2 rfl CX (oJ (H38.at (i:=3) rfl)).2.2.2.1 Da rfl rfl rfl (fun S39 H40=>?_)
  refine ai.nil ⟨_,.any,_,rfl,(fun _ ht=>by cases ht),_,(.q (.q (.q (.q (.o (.w .any .nil)))))),(fun _ ht=>by cases ht),?_⟩
  refine ⟨[],by kernel_rfl,?_,_,rfl,?_⟩
  ·
   exact .nil
  refine aj.region E.obj rfl ?_
  refine ai.val rfl (aa rfl) rfl ?_
  refine ai.val rfl (ak rfl rfl bY) rfl ?_
  refine ai.val rfl (ah rfl) rfl ?_
  refine ai.nil ?_
  exact ⟨⟨z30,v36,(IntKind.wrap .i64 (x23 + 1))⟩,_,_,S39,.refl _ _,.refl _,(ae.r rfl (ae.r rfl (ae.r rfl (ae.r rfl (ae.r rfl ae.nil))))),H40.sl [0,1,2,3] rfl rfl,h⟩
 replace h:=bN hb26 h
 refine aj.exit ?_
 refine aj.seq ?_
 refine aj.seq ?_
 refine aj.region E.obj rfl ?_
 refine ai.val rfl (ah rfl) rfl ?_
 refine ai.nil ?_
 refine aj.block ?_
 have H75:=H20.vz
 refine lZ.start (B:=ax) (α:=(List aG) × AV × Int) (fun k a=>bq n a1 z8 x21 k a.1 a.2.2=some r) (fun a=>[(1,(.ptr b2 0 0)),(2,(.ptr b5 0 0)),(3,(.d (.sl ((z8).map D.str) false))),(4,(.ptr b9 0 0)),(6,(.d (.int .i64 a.2.2)))]) (fun a=>[.box b9 [v22,a.2.1],.box b5 [(.d .bK),(.d .bK)],.box b2 [(.d (.sl ((a1.Path).map (D.int .i64)) false)),(.d (.sl ((a1.Names).map (D.int .i64)) false)),(.d (.sl ((a1.Values).map (D.int .i64)) false))],.grow v22 ((x21).map D.str),.grow a.2.1 ((a.1).map av)]) ?_ ?_ n ⟨⟨[],(.d .bK),0⟩,_,_,S19,.refl _ _,.refl _,(ae.r rfl (ae.r rfl (ae.r rfl (ae.r rfl (ae.r rfl ae.nil))))),H75.sl [1,2,3,4,0] rfl rfl,h⟩
 ·
  intro a h; simp [bq] at h
 intro k53 a S48 H49 h
 obtain ⟨x50,v51,x52⟩:=a
 replace h:bq n a1 z8 x21 (k53 + 1) x50 x52=some r:=h
 replace H49:Has ax S48 [.box b9 [v22,v51],.box b5 [(.d .bK),(.d .bK)],.box b2 [(.d (.sl ((a1.Path).map (D.int .i64)) false)),(.d (.sl ((a1.Names).map (D.int .i64)) false)),(.d (.sl ((a1.Values).map (D.int .i64)) false))],.grow v22 ((x21).map D.str),.grow v51 ((x50).map av)]:=H49
 unfold bq at h
 refine aj.seq ?_
 refine aj.seq ?_
 refine aj.region E.obj rfl ?_
 refine ai.val rfl (aa rfl) rfl ?_
 refine ai.val rfl (az rfl Au ui rfl) rfl ?_
 refine ai.val rfl (aK H49 (i:=2) rfl rfl (aS uu rfl)) rfl ?_
 refine ai.val rfl (aR rfl zG) rfl ?_
 refine ai.val rfl (ak rfl rfl bV) rfl ?_
 refine ai.val rfl (aa rfl) rfl ?_
 refine ai.bP 3 44 (.d (.bool ((decide (x52 < ((a1.Names).length:Int))) && (decide (x52 < 3))))) ?_ ?_
 ·
  rcases Bool.eq_false_or_eq_true ((decide (x52 < ((a1.Names).length:Int)))) with hB54 | hB54
  ·
   refine ai.bool hB54 ?_
   refine ai.val rfl (aa rfl) rfl ?_
   refine ai.val rfl (ak rfl rfl bV) rfl ?_
   refine ai.val rfl (ay (b:=true) rfl rfl) rfl ?_
   exact ai.nil ⟨_,rfl,(ae.put (ae.push rfl (ae.push rfl (ae.put (.refl _) (Less.eq (by rw [hB54]))))) (Less.eq (by rw [hB54]; rw [Bool.true_and])))⟩
  refine ai.bool hB54 ?_
  refine ai.no rfl rfl ?_
  refine ai.no rfl rfl ?_
  refine ai.val rfl (ay (b:=false) rfl rfl) rfl ?_
  exact ai.nil ⟨_,rfl,(ae.put (ae.push rfl (ae.push rfl (ae.put (.refl _) (Less.eq (by rw [hB54]))))) (Less.eq (by rw [hB54]; rw [Bool.false_and])))⟩
 refine ai.nil ?_
 refine aj.cond rfl (fun hb55=>?_) (fun hb55=>?_)
 ·
  replace h:=bL hb55 h
  refine aj.skip ?_
  refine aj.seq ?_
  refine aj.block ?_
  obtain ⟨z56,hzz56,h⟩:=bind_some h
  obtain ⟨z57,hzz57,h⟩:=bind_some h
  obtain ⟨z58,hzz58,h⟩:=bind_some h
  obtain ⟨z59,hzz59,h⟩:=bind_some h
  obtain ⟨z60,hzz60,h⟩:=bind_some h
  obtain ⟨z61,hzz61,h⟩:=bind_some h
  obtain ⟨z62,hzz62,h⟩:=bind_some h
  refine aj.nO E.obj um Ex [(1,none),(2,none),(3,none),(4,none),(6,none)] (by kernel_rfl) [27,29] (by decide) [some (.ptr b9 0 1),some v51,some (.d (.sl ((z8).map D.str) false)),some (.ptr b2 0 1),some (.d (.sl ((a1.Names).map (D.int .i64)) false)),some (.d (.int .i64 x52)),some (.eptr (.int .i64 z56) 0),some (.d (.int .i64 z56)),some (.d (.sl ((z8).map D.str) false)),some (.d (.int .i64 ((z8).length:Int))),some (.d (.int .i64 (IntKind.wrap .i64 (((z8).length:Int) - 1)))),some (.d (.int .i64 z57)),some (.eptr (.str z58) 0),some (.d (.str z58)),some (.d (.sl ((z8).map D.str) false)),some (.ptr b2 0 2),some (.d (.sl ((a1.Values).map (D.int .i64)) false)),some (.d (.int .i64 x52)),some (.d (.int .i64 z59)),some (.d (.sl ((z8).map D.str) false)),some (.d (.int .i64 ((z8).length:Int))),some (.d (.int .i64 (IntKind.wrap .i64 (((z8).length:Int) - 1)))),some (.d (.int .i64 z60)),some (.eptr (.str z61) 0),some (.d (.str z61)),some (.d (av (aG.mk z58 z61))),some (.d (.sl (([(aG.mk z58 z61)]).map av) true)),none,none,none] ?_
  refine ⟨[0,1,2,3,4,5,6,7,8,9,10,11,12,13,14,15,16,17,18,19,20,21,22,23,24,25,26],by kernel_rfl,?_,_,_,rfl,rfl,.step ?_⟩
  ·
   refine .v rfl rfl rfl rfl (az rfl rM Ar rfl) ?_
   refine .v rfl rfl rfl rfl (aK H49 (i:=0) rfl rfl (aS Bh rfl)) ?_
   refine .v rfl rfl rfl rfl (aa rfl) ?_
   refine .v rfl rfl rfl rfl (az rfl Au ui rfl) ?_
   refine .v rfl rfl rfl rfl (aK H49 (i:=2) rfl rfl (aS uu rfl)) ?_
   refine .v rfl rfl rfl rfl (aa rfl) ?_
   refine .v rfl rfl rfl rfl (bF rfl rfl (bU (enc:=(D.int .i64)) hzz56 zo Cs (((fun _=>rfl) _).trans Cv.symm))) ?_
   refine .v rfl rfl rfl rfl (aT rfl (cz uA rfl)) ?_
   refine .v rfl rfl rfl rfl (aa rfl) ?_
   refine .v rfl rfl rfl rfl (aR rfl mr) ?_
   refine .v rfl rfl rfl rfl (ak rfl rfl fA) ?_
   refine .cons rfl rfl rfl (.step ?_) ?_
   ·
    refine ai.ret rfl (aA rfl rfl) (bA E _ _ _ _ _ hzz57 _ _ (au.eq (au.eq (au.eq .nil)))) rfl ?_
    exact ai.nil ⟨_,_,rfl,fun _ ht=>by cases ht; exact ⟨rfl,.refl _⟩⟩
   refine .v rfl rfl rfl rfl (bF rfl rfl (bU (enc:=D.str) hzz58 fV xO (((fun _=>rfl) _).trans jy.symm))) ?_
   refine .v rfl rfl rfl rfl (aT rfl (cz kK rfl)) ?_
   refine .v rfl rfl rfl rfl (aa rfl) ?_
   refine .v rfl rfl rfl rfl (az rfl BL ui rfl) ?_
   refine .v rfl rfl rfl rfl (aK H49 (i:=2) rfl rfl (aS uu rfl)) ?_
   refine .v rfl rfl rfl rfl (aa rfl) ?_
   refine .cons rfl rfl rfl (.step ?_) ?_
   ·
    refine ai.ret rfl (aA rfl rfl) (gY E _ _ _ _ hzz59 _ _ (au.eq (au.eq .nil))) rfl ?_
    exact ai.nil ⟨_,_,rfl,fun _ ht=>by cases ht; exact ⟨rfl,.refl _⟩⟩
   refine .v rfl rfl rfl rfl (aa rfl) ?_
   refine .v rfl rfl rfl rfl (aR rfl mr) ?_
   refine .v rfl rfl rfl rfl (ak rfl rfl fA) ?_
   refine .cons rfl rfl rfl (.step ?_) ?_
   ·
    refine ai.ret rfl (aA rfl rfl) (bA E _ _ _ _ _ hzz60 _ _ (au.eq (au.eq (au.eq .nil)))) rfl ?_
    exact ai.nil ⟨_,_,rfl,fun _ ht=>by cases ht; exact ⟨rfl,.refl _⟩⟩
   refine .v rfl rfl rfl rfl (bF rfl rfl (bU (enc:=D.str) hzz61 fV xO (((fun _=>rfl) _).trans jy.symm))) ?_
   refine .v rfl rfl rfl rfl (aT rfl (cz kK rfl)) ?_
   refine .cons rfl rfl rfl (.step ?_) ?_
   ·
    refine ai.val rfl (cK (cs:=[(.d (.str z58)),(.d (.str z61))]) j4 rfl (dz) (dW rfl rfl rfl rfl (dW rfl rfl rfl rfl rfl))) rfl ?_
    refine ai.less (Less.agg' (d:=av (aG.mk z58 z61)) (aQ.eq rfl (aQ.eq rfl .nil)) ((aG.eq _).trans rfl)) ?_
    exact ai.nil ⟨_,_,rfl,fun _ ht=>by cases ht; exact ⟨rfl,.refl _⟩⟩
   refine .v rfl rfl rfl rfl (aL (vs:=[(.d (av (aG.mk z58 z61)))]) (ds:=[(av (aG.mk z58 z61))]) kJ iB lT j4 eO rfl (by decide) (.cons rfl (aG.len _) .nil) rfl (by intro d hd; simp only [List.mem_cons,List.not_mem_nil,or_false] at hd; rcases hd with rfl <;> exact aG.agg _) rfl) ?_
   exact .nil
  refine ai.append (xs:=(x50).map av) (ys:=([(aG.mk z58 z61)]).map av) (zs:=(z62).map av) H49 rfl rfl rfl (i:=4) rfl rfl kJ vS iB (cu hzz62) vT rfl (aN (enc:=av) (fun z=>(aG.len z).trans eO.symm) _) (aN (enc:=av) (fun z=>(aG.len z).trans eO.symm) _) wz rfl (eZ hzz62) (fun v68 S69 H70=>?_)
  refine ai.nil ⟨_,_,_,rfl,(fun _ ht=>by cases ht; rfl),_,(.q (.q (.q (.q (.q (.q (.o (.o (.o (.w v68 (.w (.ptr b9 0 1) (.n .nil)))))))))))),(fun _ ht=>by cases ht; exact ⟨_,rfl,.refl _⟩),?_⟩
  refine ⟨[28],by kernel_rfl,?_,_,_,rfl,rfl,.step ?_⟩
  ·
   refine .v rfl rfl rfl rfl (az rfl rM Ar rfl) ?_
   exact .nil
  refine ai.store H70 (i:=0) rfl rfl rfl rfl (oJ (H70.at (i:=4) rfl)).2.2.2.2 rfl Dr (oJ (H70.at (i:=4) rfl)).2.2.2.1 DX rfl rfl rfl (fun S71 H72=>?_)
  refine ai.nil ⟨_,.any,_,rfl,(fun _ ht=>by cases ht),_,(.q (.q (.q (.q (.q (.q (.q (.o (.w .any .nil))))))))),(fun _ ht=>by cases ht),?_⟩
  refine ⟨[],by kernel_rfl,?_,_,rfl,?_⟩
  ·
   exact .nil
  refine aj.region E.obj rfl ?_
  refine ai.val rfl (aa rfl) rfl ?_
  refine ai.val rfl (ak rfl rfl bY) rfl ?_
  refine ai.val rfl (ah rfl) rfl ?_
  refine ai.nil ?_
  exact ⟨⟨z62,v68,(IntKind.wrap .i64 (x52 + 1))⟩,_,_,S71,.refl _ _,.refl _,(ae.r rfl (ae.r rfl (ae.r rfl (ae.r rfl (ae.r rfl ae.nil))))),H72.sl [0,1,2,3,4] rfl rfl,h⟩
 replace h:=bN hb55 h
 refine aj.exit ?_
 refine aj.seq ?_
 refine aj.region E.obj rfl ?_
 refine ai.val rfl (aK H49 (i:=0) rfl rfl (iW Cy BP rfl)) rfl ?_
 refine ai.less (Less.agg' (d:=kH (lh.mk x21 x50)) (aQ.grow H49 (i:=3) rfl (aQ.grow H49 (i:=4) rfl .nil)) ((lh.eq _).trans rfl)) ?_
 refine ai.store H49 (i:=1) rfl rfl rfl rfl (lh.dX _) rfl BP rfl DJ rfl rfl rfl (fun S73 H74=>?_)
 refine ai.nil ?_
 have hr:=Option.some.inj h
 subst hr
 exact aj.ret ⟨_,ic H74 (i:=1) rfl rfl rfl (iW Cy BP rfl),rfl,eF (au.mO (d:=kH (lh.mk x21 x50)) (aQ.eq rfl (aQ.eq rfl .nil)) ((lh.eq _).trans rfl))⟩
set_option maxRecDepth 20000 in
set_option maxHeartbeats 4000000 in
theorem pW (n:Nat) (a1:Str) (r:Bool) (h:gZ n a1=some r):aY R cfg.P 32 [(.str a1)] (.d (.bool r)):=by
 unfold gZ at h
 refine aY.of_wp E.obj.toObjOk (C:=cfg) Tryd.func32 rfl Df rfl ?_
 have H0:Has ax ax []:=Has.pure
 refine aj.seq ?_
 refine aj.region E.obj rfl ?_
 refine ai.val rfl (ah rfl) rfl ?_
 refine ai.nil ?_
 refine aj.seq ?_
 refine aj.region E.obj rfl ?_
 refine ai.val rfl (aa rfl) rfl ?_
 refine ai.val rfl (ak rfl rfl lg) rfl ?_
 refine ai.val rfl (aa rfl) rfl ?_
 refine ai.bP 4 9 (.d (.bool ((!(a1 == [])) && (decide (((a1).length:Int) ≤ 16))))) ?_ ?_
 ·
  rcases Bool.eq_false_or_eq_true ((!(a1 == []))) with hB2 | hB2
  ·
   refine ai.bool hB2 ?_
   refine ai.val rfl (aa rfl) rfl ?_
   refine ai.val rfl (dR rfl (dN pR) rfl) rfl ?_
   refine ai.val rfl (ak rfl rfl jm) rfl ?_
   refine ai.val rfl (ay (b:=true) rfl rfl) rfl ?_
   exact ai.nil ⟨_,rfl,(ae.put (ae.push rfl (ae.push rfl (ae.push rfl (ae.put (.refl _) (Less.eq (by rw [hB2])))))) (Less.eq (by rw [hB2]; rw [Bool.true_and])))⟩
  refine ai.bool hB2 ?_
  refine ai.no rfl rfl ?_
  refine ai.no rfl rfl ?_
  refine ai.no rfl rfl ?_
  refine ai.val rfl (ay (b:=false) rfl rfl) rfl ?_
  exact ai.nil ⟨_,rfl,(ae.put (ae.push rfl (ae.push rfl (ae.push rfl (ae.put (.refl _) (Less.eq (by rw [hB2])))))) (Less.eq (by rw [hB2]; rw [Bool.false_and])))⟩
 refine ai.val rfl (aa rfl) rfl ?_
 obtain ⟨z4,hzz4,h⟩:=bind_some h
 refine ai.bP 4 14 (.d (.bool z4)) ?_ ?_
 ·
  rcases Bool.eq_false_or_eq_true (((!(a1 == [])) && (decide (((a1).length:Int) ≤ 16)))) with hB3 | hB3
  ·
   refine ai.bool hB3 ?_
   replace hzz4:=bL hB3 hzz4
   refine ai.val rfl (aa rfl) rfl ?_
   obtain ⟨z5,hzz5,hzz4⟩:=bind_some hzz4
   refine ai.ret rfl (aA rfl rfl) (E.strings_Trim_ok _ _ _ _ hzz5 _ _ (au.eq (au.eq .nil))) rfl ?_
   refine ai.val rfl (ak rfl rfl je) rfl ?_
   refine ai.val rfl (ay (b:=true) rfl rfl) rfl ?_
   cases hzz4
   exact ai.nil ⟨_,rfl,(ae.put (ae.push rfl (ae.push rfl (ae.push rfl (ae.put (.refl _) (Less.eq (by rw [hB3])))))) (.refl _))⟩
  refine ai.bool hB3 ?_
  refine ai.no rfl rfl ?_
  refine ai.no rfl rfl ?_
  refine ai.no rfl rfl ?_
  refine ai.val rfl (ay (b:=false) rfl rfl) rfl ?_
  replace hzz4:=bN hB3 hzz4
  cases hzz4
  exact ai.nil ⟨_,rfl,(ae.put (ae.push rfl (ae.push rfl (ae.push rfl (ae.put (.refl _) (Less.eq (by rw [hB3])))))) (.refl _))⟩
 refine ai.val rfl (ah rfl) rfl ?_
 refine ai.nil ?_
 have hr:=Option.some.inj h
 subst hr
 exact aj.ret ⟨_,rfl,rfl,eF (au.eq .nil)⟩
set_option maxRecDepth 20000 in
set_option maxHeartbeats 4000000 in
theorem ou (n:Nat) (a1:Seg) (a2:Seg) (S0:St) (b3:Nat) (hb4:S0.H.get b3=some (.cells 0 [(.d (.int .i64 a2.Kind)),(.d (.str a2.Text))])) (r:Bool) (h:fu n a1 a2=some r):eB R cfg.P 33 [.d (aM a1),.ptr b3 0 0] S0 (fun o=>o=(none,.d (.bool r),S0)):=by
 unfold fu at h
 refine SpecS.of_wp (C:=cfg) Tryd.func33 rfl Dl rfl (fun wf0=>?_)
 have H0:Has S0 S0 []:=Has.start wf0
 refine aj.seq ?_
 refine aj.region E.obj rfl ?_
 refine ai.box H0 rfl rfl rfl (Seg.dX _) rfl (fun b5 S6 H7=>?_)
 refine ai.val rfl (ah rfl) rfl ?_
 refine ai.nil ?_
 refine aj.seq ?_
 refine aj.region E.obj rfl ?_
 refine ai.val rfl (az rfl iT yK rfl) rfl ?_
 refine ai.val rfl (aK H7 (i:=0) rfl rfl (aS uA rfl)) rfl ?_
 refine ai.val rfl (ak rfl rfl kT) rfl ?_
 refine ai.val rfl (aa rfl) rfl ?_
 refine ai.bP 6 13 (.d (.bool ((a1.Kind != 0) && (a1.Text == a2.Text)))) ?_ ?_
 ·
  rcases Bool.eq_false_or_eq_true ((a1.Kind != 0)) with hB8 | hB8
  ·
   refine ai.bool hB8 ?_
   refine ai.val rfl (az rfl kP xN rfl) rfl ?_
   refine ai.val rfl (aK H7 (i:=0) rfl rfl (aS kK rfl)) rfl ?_
   refine ai.val rfl (az rfl kP xN rfl) rfl ?_
   refine ai.val rfl (xW H7 hb4 rfl (aS kK rfl)) rfl ?_
   refine ai.val rfl (ak rfl rfl je) rfl ?_
   refine ai.val rfl (ay (b:=true) rfl rfl) rfl ?_
   exact ai.nil ⟨_,rfl,(ae.put (ae.push rfl (ae.push rfl (ae.push rfl (ae.push rfl (ae.push rfl (ae.put (.refl _) (Less.eq (by rw [hB8])))))))) (Less.eq (by rw [hB8]; rw [Bool.true_and])))⟩
  refine ai.bool hB8 ?_
  refine ai.no rfl rfl ?_
  refine ai.no rfl rfl ?_
  refine ai.no rfl rfl ?_
  refine ai.no rfl rfl ?_
  refine ai.no rfl rfl ?_
  refine ai.val rfl (ay (b:=false) rfl rfl) rfl ?_
  exact ai.nil ⟨_,rfl,(ae.put (ae.push rfl (ae.push rfl (ae.push rfl (ae.push rfl (ae.push rfl (ae.put (.refl _) (Less.eq (by rw [hB8])))))))) (Less.eq (by rw [hB8]; rw [Bool.false_and])))⟩
 refine ai.val rfl (ah rfl) rfl ?_
 refine ai.nil ?_
 have hr:=Option.some.inj h
 subst hr
 exact aj.ret ⟨_,rfl,rfl,H7.keeps,eF (au.eq .nil)⟩
set_option maxRecDepth 20000 in
set_option maxHeartbeats 4000000 in
theorem gV (n:Nat) (S0:St) (a1:(List Seg)) (fg3:Nat) (fc4:List AV) (p2:Seg→Option Bool) (hpp2:∀ S',mi S0 S'→S'.Wf→∀ (y0:Seg) (r:Bool),p2 y0=some r→eB R cfg.P fg3 ([.d (aM y0)] ++ fc4) S' (fun o=>o=(none,.d (.bool r),S'))) (r:Int) (h:cO n a1 p2=some r):eB R cfg.P 50 [.d (.sl ((a1).map aM) false),.fn fg3 fc4] S0 (fun o=>o=(none,.d (.int .i64 r),S0)):=by
 unfold cO at h
 refine SpecS.of_wp (C:=cfg) Tryd.func50 rfl Dv rfl (fun wf0=>?_)
 have H0:Has S0 S0 []:=Has.start wf0
 refine aj.seq ?_
 refine aj.region E.obj rfl ?_
 refine ai.val rfl (ah rfl) rfl ?_
 refine ai.nil ?_
 refine aj.seq ?_
 refine aj.seq ?_
 refine aj.region E.obj rfl ?_
 refine ai.val rfl (aa rfl) rfl ?_
 refine ai.val rfl (aR rfl wP) rfl ?_
 refine ai.val rfl (aa rfl) rfl ?_
 refine ai.nil ?_
 refine aj.block ?_
 refine lZ.start (B:=S0) (α:=Int) (fun k a=>aJ a1 p2 k a=some r) (fun a=>[(0,(.d (.sl ((a1).map aM) false))),(1,(.fn fg3 fc4)),(7,(.d (.int .i64 ((a1).length:Int)))),(8,(.d (.int .i64 a)))]) (fun a=>[]) ?_ ?_ n ⟨0,_,_,S0,.refl _ _,.refl _,(ae.r rfl (ae.r rfl (ae.r rfl (ae.r rfl ae.nil)))),H0.sl [] rfl rfl,h⟩
 ·
  intro a h; simp [aJ] at h
 intro k13 x12 S10 H11 h
 replace h:aJ a1 p2 (k13 + 1) x12=some r:=h
 replace H11:Has S0 S10 []:=H11
 unfold aJ at h
 refine aj.seq ?_
 refine aj.region E.obj rfl ?_
 refine ai.val rfl (ak rfl rfl bV) rfl ?_
 refine ai.nil ?_
 refine aj.seq ?_
 refine aj.cond rfl (fun hb14=>?_) (fun hb14=>?_)
 ·
  replace h:=bL hb14 h
  refine aj.skip ?_
  refine aj.seq ?_
  refine aj.block ?_
  refine aj.seq ?_
  refine aj.region E.obj rfl ?_
  refine ai.val rfl (aa rfl) rfl ?_
  refine ai.val rfl (ah rfl) rfl ?_
  refine ai.nil ?_
  refine aj.seq ?_
  refine aj.region E.obj rfl ?_
  refine ai.val rfl (aa rfl) rfl ?_
  refine ai.val rfl (aa rfl) rfl ?_
  refine ai.val rfl (aa rfl) rfl ?_
  obtain ⟨z15,hzz15,h⟩:=bind_some h
  refine ai.val rfl (bF rfl rfl (bU (enc:=aM) hzz15 qM pE ((Seg.len _).trans gN.symm))) rfl ?_
  refine ai.val rfl (aT rfl (Seg.kS pO gN)) rfl ?_
  obtain ⟨z16,hzz16,h⟩:=bind_some h
  refine ai.ret rfl (yN rfl rfl) (hpp2 _ H11.keeps H11.wf _ _ hzz16) rfl ?_
  refine ai.nil ?_
  refine aj.cond rfl (fun hb17=>?_) (fun hb17=>?_)
  ·
   replace h:=bL hb17 h
   refine aj.seq ?_
   refine aj.region E.obj rfl ?_
   refine ai.val rfl (aa rfl) rfl ?_
   refine ai.val rfl (ah rfl) rfl ?_
   refine ai.nil ?_
   have hr:=Option.some.inj h
   subst hr
   exact aj.ret ⟨_,rfl,rfl,H11.keeps,eF (au.eq .nil)⟩
  replace h:=bN hb17 h
  refine aj.skip ?_
  refine aj.region E.obj rfl ?_
  refine ai.val rfl (ak rfl rfl bY) rfl ?_
  refine ai.val rfl (aa rfl) rfl ?_
  refine ai.nil ?_
  exact ⟨(IntKind.wrap .i64 (x12 + 1)),_,_,S10,.refl _ _,.refl _,(ae.r rfl (ae.r rfl (ae.r rfl (ae.r rfl ae.nil)))),H11.sl [] rfl rfl,h⟩
 replace h:=bN hb14 h
 refine aj.exit ?_
 refine aj.seq ?_
 refine aj.region E.obj rfl ?_
 refine ai.val rfl (ah rfl) rfl ?_
 refine ai.nil ?_
 have hr:=Option.some.inj h
 subst hr
 exact aj.ret ⟨_,rfl,rfl,H11.keeps,eF (au.eq .nil)⟩
set_option maxRecDepth 20000 in
set_option maxHeartbeats 4000000 in
theorem gB (n:Nat) (S0:St) (a1:(List Seg)) (fg3:Nat) (fc4:List AV) (p2:Seg→Option Bool) (hpp2:∀ S',mi S0 S'→S'.Wf→∀ (y0:Seg) (r:Bool),p2 y0=some r→eB R cfg.P fg3 ([.d (aM y0)] ++ fc4) S' (fun o=>o=(none,.d (.bool r),S'))) (r:Bool) (h:aX n a1 p2=some r):eB R cfg.P 34 [.d (.sl ((a1).map aM) false),.fn fg3 fc4] S0 (fun o=>o=(none,.d (.bool r),S0)):=by
 unfold aX at h
 refine SpecS.of_wp (C:=cfg) Tryd.func34 rfl Db rfl (fun wf0=>?_)
 have H0:Has S0 S0 []:=Has.start wf0
 refine aj.seq ?_
 refine aj.region E.obj rfl ?_
 refine ai.val rfl (ah rfl) rfl ?_
 refine ai.nil ?_
 refine aj.seq ?_
 refine aj.region E.obj rfl ?_
 refine ai.val rfl (aa rfl) rfl ?_
 refine ai.val rfl (aa rfl) rfl ?_
 obtain ⟨z6,hzz6,h⟩:=bind_some h
 refine ai.ret rfl (aA rfl rfl) (eB.AP (gV E n S0 _ _ _ p2 (fun S' hk hw y5 r hr=>hpp2 S' (H0.keeps.trans hk) hw y5 r hr) _ hzz6) (.cons (.refl _) (.cons (.refl _) .nil))) rfl ?_
 refine ai.val rfl (ak rfl rfl gu) rfl ?_
 refine ai.val rfl (ah rfl) rfl ?_
 refine ai.nil ?_
 have hr:=Option.some.inj h
 subst hr
 exact aj.ret ⟨_,rfl,rfl,H0.keeps,eF (au.eq .nil)⟩
set_option maxRecDepth 20000 in
set_option maxHeartbeats 4000000 in
theorem gT (n:Nat) (a1:(List Seg)) (r:Bool) (h:dZ n a1=some r):aY R cfg.P 13 [(.sl ((a1).map aM) false)] (.d (.bool r)):=by
 unfold dZ at h
 refine aY.of_wp E.obj.toObjOk (C:=cfg) Tryd.func13 rfl Dx rfl ?_
 have H0:Has ax ax []:=Has.pure
 refine aj.seq ?_
 refine aj.region E.obj rfl ?_
 refine ai.val rfl (ah rfl) rfl ?_
 refine ai.nil ?_
 refine aj.seq ?_
 refine aj.seq ?_
 refine aj.region E.obj rfl ?_
 refine ai.val rfl (aa rfl) rfl ?_
 refine ai.val rfl (aR rfl wP) rfl ?_
 refine ai.val rfl (ak rfl rfl lq) rfl ?_
 refine ai.nil ?_
 refine aj.cond rfl (fun hb2=>?_) (fun hb2=>?_)
 ·
  replace h:=bL hb2 h
  refine aj.seq ?_
  refine aj.region E.obj rfl ?_
  refine ai.val rfl (ah rfl) rfl ?_
  refine ai.nil ?_
  have hr:=Option.some.inj h
  subst hr
  exact aj.ret ⟨_,rfl,rfl,eF (au.eq .nil)⟩
 replace h:=bN hb2 h
 refine aj.skip ?_
 refine aj.seq ?_
 refine aj.seq ?_
 refine aj.region E.obj rfl ?_
 refine ai.val rfl (aa rfl) rfl ?_
 refine ai.val rfl (aR rfl wP) rfl ?_
 refine ai.val rfl (aa rfl) rfl ?_
 refine ai.nil ?_
 refine aj.block ?_
 refine lZ.start (B:=ax) (α:=Int) (fun k a=>dh n a1 k a=some r) (fun a=>[(0,(.d (.sl ((a1).map aM) false))),(10,(.d (.sl ((a1).map aM) false))),(11,(.d (.int .i64 ((a1).length:Int)))),(12,(.d (.int .i64 a)))]) (fun a=>[]) ?_ ?_ n ⟨0,_,_,ax,.refl _ _,.refl _,(ae.r rfl (ae.r rfl (ae.r rfl (ae.r rfl ae.nil)))),H0.sl [] rfl rfl,h⟩
 ·
  intro a h; simp [dh] at h
 intro k11 x10 S8 H9 h
 replace h:dh n a1 (k11 + 1) x10=some r:=h
 replace H9:Has ax S8 []:=H9
 unfold dh at h
 refine aj.seq ?_
 refine aj.region E.obj rfl ?_
 refine ai.val rfl (ak rfl rfl bV) rfl ?_
 refine ai.nil ?_
 refine aj.seq ?_
 refine aj.cond rfl (fun hb12=>?_) (fun hb12=>?_)
 ·
  replace h:=bL hb12 h
  refine aj.skip ?_
  refine aj.seq ?_
  refine aj.block ?_
  refine aj.seq ?_
  refine aj.region E.obj rfl ?_
  refine ai.val rfl (aa rfl) rfl ?_
  obtain ⟨z13,hzz13,h⟩:=bind_some h
  refine ai.val rfl (bF rfl rfl (bU (enc:=aM) hzz13 qM pE ((Seg.len _).trans gN.symm))) rfl ?_
  refine ai.val rfl (aT rfl (Seg.kS pO gN)) rfl ?_
  refine ai.alloc H9 rfl y9 nM rfl rfl (fun b14 S15 H16=>?_)
  refine ai.val rfl (ah rfl) rfl ?_
  refine ai.store H16 (i:=0) rfl rfl rfl rfl (Seg.dX _) rfl gN rfl pE rfl rfl rfl (fun S17 H18=>?_)
  refine ai.nil ?_
  refine aj.seq ?_
  refine aj.region E.obj rfl ?_
  refine ai.val rfl (aa rfl) rfl ?_
  refine ai.val rfl (aa rfl) rfl ?_
  refine ai.val rfl (aR rfl wP) rfl ?_
  refine ai.val rfl (ak rfl rfl fA) rfl ?_
  refine ai.val rfl (ak rfl rfl dH) rfl ?_
  refine ai.val rfl (ah rfl) rfl ?_
  refine ai.nil ?_
  refine aj.seq ?_
  refine aj.block ?_
  refine aj.seq ?_
  refine aj.region E.obj rfl ?_
  refine ai.val rfl (az rfl kP xN rfl) rfl ?_
  refine ai.val rfl (aK H18 (i:=0) rfl rfl (aS kK rfl)) rfl ?_
  obtain ⟨z19,hzz19,h⟩:=bind_some h
  refine ai.ret rfl (aA rfl rfl) (pW E _ _ _ hzz19 _ _ (au.eq .nil)) rfl ?_
  refine ai.val rfl (bu rfl) rfl ?_
  refine ai.val rfl (aa rfl) rfl ?_
  refine ai.bP 4 31 (.d (.bool ((!z19) || (decide (z13.Kind < 0))))) ?_ ?_
  ·
   rcases Bool.eq_false_or_eq_true ((!z19)) with hB20 | hB20
   ·
    refine ai.bool hB20 ?_
    refine ai.no rfl rfl ?_
    refine ai.no rfl rfl ?_
    refine ai.no rfl rfl ?_
    refine ai.val rfl (ay (b:=true) rfl rfl) rfl ?_
    exact ai.nil ⟨_,rfl,(ae.put (ae.push rfl (ae.push rfl (ae.push rfl (ae.put (.refl _) (Less.eq (by rw [hB20])))))) (Less.eq (by rw [hB20]; rw [Bool.true_or])))⟩
   refine ai.bool hB20 ?_
   refine ai.val rfl (az rfl iT yK rfl) rfl ?_
   refine ai.val rfl (aK H18 (i:=0) rfl rfl (aS uA rfl)) rfl ?_
   refine ai.val rfl (ak rfl rfl bV) rfl ?_
   refine ai.val rfl (ay (b:=false) rfl rfl) rfl ?_
   exact ai.nil ⟨_,rfl,(ae.put (ae.push rfl (ae.push rfl (ae.push rfl (ae.put (.refl _) (Less.eq (by rw [hB20])))))) (Less.eq (by rw [hB20]; rw [Bool.false_or])))⟩
  refine ai.val rfl (aa rfl) rfl ?_
  refine ai.bP 4 36 (.d (.bool (((!z19) || (decide (z13.Kind < 0))) || (decide (3 < z13.Kind))))) ?_ ?_
  ·
   rcases Bool.eq_false_or_eq_true (((!z19) || (decide (z13.Kind < 0)))) with hB21 | hB21
   ·
    refine ai.bool hB21 ?_
    refine ai.no rfl rfl ?_
    refine ai.no rfl rfl ?_
    refine ai.no rfl rfl ?_
    refine ai.val rfl (ay (b:=true) rfl rfl) rfl ?_
    exact ai.nil ⟨_,rfl,(ae.put (ae.push rfl (ae.push rfl (ae.push rfl (ae.put (.refl _) (Less.eq (by rw [hB21])))))) (Less.eq (by rw [hB21]; rw [Bool.true_or])))⟩
   refine ai.bool hB21 ?_
   refine ai.val rfl (az rfl iT yK rfl) rfl ?_
   refine ai.val rfl (aK H18 (i:=0) rfl rfl (aS uA rfl)) rfl ?_
   refine ai.val rfl (ak rfl rfl lq) rfl ?_
   refine ai.val rfl (ay (b:=false) rfl rfl) rfl ?_
   exact ai.nil ⟨_,rfl,(ae.put (ae.push rfl (ae.push rfl (ae.push rfl (ae.put (.refl _) (Less.eq (by rw [hB21])))))) (Less.eq (by rw [hB21]; rw [Bool.false_or])))⟩
  refine ai.val rfl (ah rfl) rfl ?_
  refine ai.nil ?_
  refine aj.cond rfl (fun hb22=>?_) (fun hb22=>?_)
  ·
   replace h:=bL hb22 h
   refine aj.seq ?_
   refine aj.region E.obj rfl ?_
   refine ai.val rfl (ah rfl) rfl ?_
   refine ai.nil ?_
   have hr:=Option.some.inj h
   subst hr
   exact aj.ret ⟨_,rfl,rfl,eF (au.eq .nil)⟩
  replace h:=bN hb22 h
  refine aj.seq ?_
  refine aj.region E.obj rfl ?_
  refine ai.val rfl (az rfl iT yK rfl) rfl ?_
  refine ai.val rfl (aK H18 (i:=0) rfl rfl (aS uA rfl)) rfl ?_
  refine ai.val rfl (ak rfl rfl gu) rfl ?_
  refine ai.val rfl (aa rfl) rfl ?_
  refine ai.bP 3 44 (.d (.bool ((decide (2 ≤ z13.Kind)) && (!(x10 == (IntKind.wrap .i64 (((a1).length:Int) - 1))))))) ?_ ?_
  ·
   rcases Bool.eq_false_or_eq_true ((decide (2 ≤ z13.Kind))) with hB23 | hB23
   ·
    refine ai.bool hB23 ?_
    refine ai.val rfl (aa rfl) rfl ?_
    refine ai.val rfl (bu rfl) rfl ?_
    refine ai.val rfl (ay (b:=true) rfl rfl) rfl ?_
    exact ai.nil ⟨_,rfl,(ae.put (ae.push rfl (ae.push rfl (ae.put (.refl _) (Less.eq (by rw [hB23]))))) (Less.eq (by rw [hB23]; rw [Bool.true_and])))⟩
   refine ai.bool hB23 ?_
   refine ai.no rfl rfl ?_
   refine ai.no rfl rfl ?_
   refine ai.val rfl (ay (b:=false) rfl rfl) rfl ?_
   exact ai.nil ⟨_,rfl,(ae.put (ae.push rfl (ae.push rfl (ae.put (.refl _) (Less.eq (by rw [hB23]))))) (Less.eq (by rw [hB23]; rw [Bool.false_and])))⟩
  refine ai.val rfl (ah rfl) rfl ?_
  refine ai.nil ?_
  refine aj.cond rfl (fun hb24=>?_) (fun hb24=>?_)
  ·
   replace h:=bL hb24 h
   refine aj.seq ?_
   refine aj.region E.obj rfl ?_
   refine ai.val rfl (ah rfl) rfl ?_
   refine ai.nil ?_
   have hr:=Option.some.inj h
   subst hr
   exact aj.ret ⟨_,rfl,rfl,eF (au.eq .nil)⟩
  replace h:=bN hb24 h
  refine aj.skip ?_
  refine aj.seq ?_
  refine aj.region E.obj rfl ?_
  refine ai.val rfl (uE rfl) rfl ?_
  refine ai.val rfl (ah rfl) rfl ?_
  refine ai.nil ?_
  refine aj.seq ?_
  refine aj.region E.obj rfl ?_
  refine ai.val rfl (az rfl iT yK rfl) rfl ?_
  refine ai.val rfl (aK H18 (i:=0) rfl rfl (aS uA rfl)) rfl ?_
  refine ai.val rfl (ak rfl rfl kT) rfl ?_
  refine ai.val rfl (aa rfl) rfl ?_
  obtain ⟨z26,hzz26,h⟩:=bind_some h
  refine ai.bP 6 55 (.d (.bool z26)) ?_ ?_
  ·
   rcases Bool.eq_false_or_eq_true ((z13.Kind != 0)) with hB25 | hB25
   ·
    refine ai.bool hB25 ?_
    replace hzz26:=bL hB25 hzz26
    refine ai.val rfl (aa rfl) rfl ?_
    refine ai.val rfl (aa rfl) rfl ?_
    obtain ⟨z27,hzz27,hzz26⟩:=bind_some hzz26
    refine ai.val rfl (oq rfl rfl qM Dy (fun z=>(Seg.len z).trans gN.symm) hzz27) rfl ?_
    refine ai.val rfl (aa rfl) rfl ?_
    obtain ⟨z29,hzz29,hzz26⟩:=bind_some hzz26
    refine ai.ret rfl (aA rfl rfl) (eB.AP (gB E n S17 _ _ _ (fun y28=>fu n y28 z13) (fun S' hk hw y28 r hr=>ou E n y28 z13 S' _ (hk.H _ _ (H18.at (i:=0) rfl)) r hr) _ hzz29) (.cons (.refl _) (.cons (.refl _) .nil))) rfl ?_
    refine ai.val rfl (ay (b:=true) rfl rfl) rfl ?_
    cases hzz26
    exact ai.nil ⟨_,rfl,(ae.put (ae.push rfl (ae.push rfl (ae.push rfl (ae.push rfl (ae.push rfl (ae.put (.refl _) (Less.eq (by rw [hB25])))))))) (.refl _))⟩
   refine ai.bool hB25 ?_
   refine ai.no rfl rfl ?_
   refine ai.no rfl rfl ?_
   refine ai.no rfl rfl ?_
   refine ai.no rfl rfl ?_
   refine ai.no rfl rfl ?_
   refine ai.val rfl (ay (b:=false) rfl rfl) rfl ?_
   replace hzz26:=bN hB25 hzz26
   cases hzz26
   exact ai.nil ⟨_,rfl,(ae.put (ae.push rfl (ae.push rfl (ae.push rfl (ae.push rfl (ae.push rfl (ae.put (.refl _) (Less.eq (by rw [hB25])))))))) (.refl _))⟩
  refine ai.nil ?_
  refine aj.cond rfl (fun hb30=>?_) (fun hb30=>?_)
  ·
   replace h:=bL hb30 h
   refine aj.seq ?_
   refine aj.region E.obj rfl ?_
   refine ai.val rfl (ah rfl) rfl ?_
   refine ai.nil ?_
   have hr:=Option.some.inj h
   subst hr
   exact aj.ret ⟨_,rfl,rfl,eF (au.eq .nil)⟩
  replace h:=bN hb30 h
  refine aj.skip ?_
  refine aj.region E.obj rfl ?_
  refine ai.val rfl (ak rfl rfl bY) rfl ?_
  refine ai.val rfl (aa rfl) rfl ?_
  refine ai.nil ?_
  exact ⟨(IntKind.wrap .i64 (x10 + 1)),_,_,S17,.refl _ _,.refl _,(ae.r rfl (ae.r rfl (ae.r rfl (ae.r rfl ae.nil)))),H18.sl [] rfl rfl,h⟩
 replace h:=bN hb12 h
 refine aj.exit ?_
 refine aj.seq ?_
 refine aj.region E.obj rfl ?_
 refine ai.val rfl (ah rfl) rfl ?_
 refine ai.nil ?_
 have hr:=Option.some.inj h
 subst hr
 exact aj.ret ⟨_,rfl,rfl,eF (au.eq .nil)⟩
set_option maxRecDepth 20000 in
set_option maxHeartbeats 4000000 in
theorem o9 (n:Nat) (a1:Int) (r:Bool) (h:gU n a1=some r):aY R cfg.P 55 [(.int .u8 a1)] (.d (.bool r)):=by
 unfold gU at h
 refine aY.of_wp E.obj.toObjOk (C:=cfg) Tryd.func55 rfl DT rfl ?_
 have H0:Has ax ax []:=Has.pure
 refine aj.seq ?_
 refine aj.region E.obj rfl ?_
 refine ai.val rfl (ah rfl) rfl ?_
 refine ai.nil ?_
 refine aj.seq ?_
 refine aj.region E.obj rfl ?_
 refine ai.val rfl (aa rfl) rfl ?_
 refine ai.val rfl (ak rfl rfl gu) rfl ?_
 refine ai.val rfl (aa rfl) rfl ?_
 refine ai.bP 3 9 (.d (.bool ((decide (97 ≤ a1)) && (decide (a1 ≤ 122))))) ?_ ?_
 ·
  rcases Bool.eq_false_or_eq_true ((decide (97 ≤ a1))) with hB2 | hB2
  ·
   refine ai.bool hB2 ?_
   refine ai.val rfl (aa rfl) rfl ?_
   refine ai.val rfl (ak rfl rfl jm) rfl ?_
   refine ai.val rfl (ay (b:=true) rfl rfl) rfl ?_
   exact ai.nil ⟨_,rfl,(ae.put (ae.push rfl (ae.push rfl (ae.put (.refl _) (Less.eq (by rw [hB2]))))) (Less.eq (by rw [hB2]; rw [Bool.true_and])))⟩
  refine ai.bool hB2 ?_
  refine ai.no rfl rfl ?_
  refine ai.no rfl rfl ?_
  refine ai.val rfl (ay (b:=false) rfl rfl) rfl ?_
  exact ai.nil ⟨_,rfl,(ae.put (ae.push rfl (ae.push rfl (ae.put (.refl _) (Less.eq (by rw [hB2]))))) (Less.eq (by rw [hB2]; rw [Bool.false_and])))⟩
 refine ai.val rfl (aa rfl) rfl ?_
 refine ai.bP 7 17 (.d (.bool (((decide (97 ≤ a1)) && (decide (a1 ≤ 122))) || ((decide (65 ≤ a1)) && (decide (a1 ≤ 90)))))) ?_ ?_
 ·
  rcases Bool.eq_false_or_eq_true (((decide (97 ≤ a1)) && (decide (a1 ≤ 122)))) with hB3 | hB3
  ·
   refine ai.bool hB3 ?_
   refine ai.no rfl rfl ?_
   refine ai.no rfl rfl ?_
   refine ai.no rfl rfl ?_
   refine ai.no rfl rfl ?_
   refine ai.no rfl rfl ?_
   refine ai.no rfl rfl ?_
   refine ai.val rfl (ay (b:=true) rfl rfl) rfl ?_
   exact ai.nil ⟨_,rfl,(ae.put (ae.push rfl (ae.push rfl (ae.push rfl (ae.push rfl (ae.push rfl (ae.push rfl (ae.put (.refl _) (Less.eq (by rw [hB3]))))))))) (Less.eq (by rw [hB3]; rw [Bool.true_or])))⟩
  refine ai.bool hB3 ?_
  refine ai.val rfl (aa rfl) rfl ?_
  refine ai.val rfl (ak rfl rfl gu) rfl ?_
  refine ai.val rfl (aa rfl) rfl ?_
  refine ai.bP 3 16 (.d (.bool ((decide (65 ≤ a1)) && (decide (a1 ≤ 90))))) ?_ ?_
  ·
   rcases Bool.eq_false_or_eq_true ((decide (65 ≤ a1))) with hB4 | hB4
   ·
    refine ai.bool hB4 ?_
    refine ai.val rfl (aa rfl) rfl ?_
    refine ai.val rfl (ak rfl rfl jm) rfl ?_
    refine ai.val rfl (ay (b:=true) rfl rfl) rfl ?_
    exact ai.nil ⟨_,rfl,(ae.put (ae.push rfl (ae.push rfl (ae.put (.refl _) (Less.eq (by rw [hB4]))))) (Less.eq (by rw [hB4]; rw [Bool.true_and])))⟩
   refine ai.bool hB4 ?_
   refine ai.no rfl rfl ?_
   refine ai.no rfl rfl ?_
   refine ai.val rfl (ay (b:=false) rfl rfl) rfl ?_
   exact ai.nil ⟨_,rfl,(ae.put (ae.push rfl (ae.push rfl (ae.put (.refl _) (Less.eq (by rw [hB4]))))) (Less.eq (by rw [hB4]; rw [Bool.false_and])))⟩
  refine ai.val rfl (ay (b:=false) rfl rfl) rfl ?_
  exact ai.nil ⟨_,rfl,(ae.put (ae.push rfl (ae.push rfl (ae.push rfl (ae.push rfl (ae.put (.refl _) (Less.eq (by rw [hB3]))))))) (Less.eq (by rw [hB3]; rw [Bool.false_or])))⟩
 refine ai.val rfl (ah rfl) rfl ?_
 refine ai.nil ?_
 refine aj.seq ?_
 refine aj.region E.obj rfl ?_
 refine ai.val rfl (aa rfl) rfl ?_
 refine ai.val rfl (aa rfl) rfl ?_
 refine ai.bP 7 26 (.d (.bool ((((decide (97 ≤ a1)) && (decide (a1 ≤ 122))) || ((decide (65 ≤ a1)) && (decide (a1 ≤ 90)))) || ((decide (48 ≤ a1)) && (decide (a1 ≤ 57)))))) ?_ ?_
 ·
  rcases Bool.eq_false_or_eq_true ((((decide (97 ≤ a1)) && (decide (a1 ≤ 122))) || ((decide (65 ≤ a1)) && (decide (a1 ≤ 90))))) with hB5 | hB5
  ·
   refine ai.bool hB5 ?_
   refine ai.no rfl rfl ?_
   refine ai.no rfl rfl ?_
   refine ai.no rfl rfl ?_
   refine ai.no rfl rfl ?_
   refine ai.no rfl rfl ?_
   refine ai.no rfl rfl ?_
   refine ai.val rfl (ay (b:=true) rfl rfl) rfl ?_
   exact ai.nil ⟨_,rfl,(ae.put (ae.push rfl (ae.push rfl (ae.push rfl (ae.push rfl (ae.push rfl (ae.push rfl (ae.put (.refl _) (Less.eq (by rw [hB5]))))))))) (Less.eq (by rw [hB5]; rw [Bool.true_or])))⟩
  refine ai.bool hB5 ?_
  refine ai.val rfl (aa rfl) rfl ?_
  refine ai.val rfl (ak rfl rfl gu) rfl ?_
  refine ai.val rfl (aa rfl) rfl ?_
  refine ai.bP 3 25 (.d (.bool ((decide (48 ≤ a1)) && (decide (a1 ≤ 57))))) ?_ ?_
  ·
   rcases Bool.eq_false_or_eq_true ((decide (48 ≤ a1))) with hB6 | hB6
   ·
    refine ai.bool hB6 ?_
    refine ai.val rfl (aa rfl) rfl ?_
    refine ai.val rfl (ak rfl rfl jm) rfl ?_
    refine ai.val rfl (ay (b:=true) rfl rfl) rfl ?_
    exact ai.nil ⟨_,rfl,(ae.put (ae.push rfl (ae.push rfl (ae.put (.refl _) (Less.eq (by rw [hB6]))))) (Less.eq (by rw [hB6]; rw [Bool.true_and])))⟩
   refine ai.bool hB6 ?_
   refine ai.no rfl rfl ?_
   refine ai.no rfl rfl ?_
   refine ai.val rfl (ay (b:=false) rfl rfl) rfl ?_
   exact ai.nil ⟨_,rfl,(ae.put (ae.push rfl (ae.push rfl (ae.put (.refl _) (Less.eq (by rw [hB6]))))) (Less.eq (by rw [hB6]; rw [Bool.false_and])))⟩
  refine ai.val rfl (ay (b:=false) rfl rfl) rfl ?_
  exact ai.nil ⟨_,rfl,(ae.put (ae.push rfl (ae.push rfl (ae.push rfl (ae.push rfl (ae.put (.refl _) (Less.eq (by rw [hB5]))))))) (Less.eq (by rw [hB5]; rw [Bool.false_or])))⟩
 refine ai.val rfl (aa rfl) rfl ?_
 obtain ⟨z8,hzz8,h⟩:=bind_some h
 refine ai.bP 4 31 (.d (.bool z8)) ?_ ?_
 ·
  rcases Bool.eq_false_or_eq_true (((((decide (97 ≤ a1)) && (decide (a1 ≤ 122))) || ((decide (65 ≤ a1)) && (decide (a1 ≤ 90)))) || ((decide (48 ≤ a1)) && (decide (a1 ≤ 57))))) with hB7 | hB7
  ·
   refine ai.bool hB7 ?_
   refine ai.no rfl rfl ?_
   refine ai.no rfl rfl ?_
   refine ai.no rfl rfl ?_
   refine ai.val rfl (ay (b:=true) rfl rfl) rfl ?_
   replace hzz8:=bL hB7 hzz8
   cases hzz8
   exact ai.nil ⟨_,rfl,(ae.put (ae.push rfl (ae.push rfl (ae.push rfl (ae.put (.refl _) (Less.eq (by rw [hB7])))))) (.refl _))⟩
  refine ai.bool hB7 ?_
  replace hzz8:=bN hB7 hzz8
  refine ai.val rfl (aa rfl) rfl ?_
  obtain ⟨z9,hzz9,hzz8⟩:=bind_some hzz8
  refine ai.ret rfl (aA rfl rfl) (E.strings_IndexByte_ok _ _ _ _ hzz9 _ _ (au.eq (au.eq .nil))) rfl ?_
  refine ai.val rfl (ak rfl rfl gu) rfl ?_
  refine ai.val rfl (ay (b:=false) rfl rfl) rfl ?_
  cases hzz8
  exact ai.nil ⟨_,rfl,(ae.put (ae.push rfl (ae.push rfl (ae.push rfl (ae.put (.refl _) (Less.eq (by rw [hB7])))))) (.refl _))⟩
 refine ai.val rfl (ah rfl) rfl ?_
 refine ai.nil ?_
 have hr:=Option.some.inj h
 subst hr
 exact aj.ret ⟨_,rfl,rfl,eF (au.eq .nil)⟩
set_option maxRecDepth 20000 in
set_option maxHeartbeats 4000000 in
theorem uj (n:Nat) (a1:Str) (r:Str) (h:jS n a1=some r):aY R cfg.P 42 [(.str a1)] (.d (.str r)):=by
 unfold jS at h
 refine aY.of_wp E.obj.toObjOk (C:=cfg) Tryd.func42 rfl D6 rfl ?_
 have H0:Has ax ax []:=Has.pure
 refine aj.seq ?_
 refine aj.region E.obj rfl ?_
 refine ai.val rfl (ah rfl) rfl ?_
 refine ai.nil ?_
 refine aj.seq ?_
 refine aj.region E.obj rfl ?_
 refine ai.xH H0 rfl CG rfl (fun b2 S3 H4=>?_)
 refine ai.nil ?_
 refine aj.seq ?_
 refine aj.seq ?_
 refine aj.region E.obj rfl ?_
 refine ai.val rfl (aa rfl) rfl ?_
 refine ai.val rfl (dR rfl (dN pR) rfl) rfl ?_
 refine ai.val rfl (aa rfl) rfl ?_
 refine ai.nil ?_
 refine aj.block ?_
 refine lZ.start (B:=ax) (α:=Str × Int) (fun k a=>bM n a1 k a.1 a.2=some r) (fun a=>[(0,(.d (.str a1))),(3,(.ptr b2 0 0)),(7,(.d (.int .i64 ((a1).length:Int)))),(8,(.d (.int .i64 a.2)))]) (fun a=>[.obj b2 1 (.str a.1)]) ?_ ?_ n ⟨⟨[],0⟩,_,_,S3,.refl _ _,.refl _,(ae.r rfl (ae.r rfl (ae.r rfl (ae.r rfl ae.nil)))),H4.sl [0] rfl rfl,h⟩
 ·
  intro a h; simp [bM] at h
 intro k15 a S11 H12 h
 obtain ⟨x13,x14⟩:=a
 replace h:bM n a1 (k15 + 1) x13 x14=some r:=h
 replace H12:Has ax S11 [.obj b2 1 (.str x13)]:=H12
 unfold bM at h
 refine aj.seq ?_
 refine aj.region E.obj rfl ?_
 refine ai.val rfl (ak rfl rfl bV) rfl ?_
 refine ai.nil ?_
 refine aj.seq ?_
 refine aj.cond rfl (fun hb16=>?_) (fun hb16=>?_)
 ·
  replace h:=bL hb16 h
  refine aj.skip ?_
  refine aj.join (B:=ax) (α:=Str) (fun a=>fM x14 (bM n a1 k15) a=some r) (fun a=>[(0,(.d (.str a1))),(3,(.ptr b2 0 0)),(7,(.d (.int .i64 ((a1).length:Int)))),(8,(.d (.int .i64 x14)))]) (fun a=>[.obj b2 1 (.str a)]) ?_ ?_
  ·
   intro x19 S17 H18 h
   replace h:fM x14 (bM n a1 k15) x19=some r:=h
   replace H18:Has ax S17 [.obj b2 1 (.str x19)]:=H18
   unfold fM at h
   refine aj.region E.obj rfl ?_
   refine ai.val rfl (ak rfl rfl bY) rfl ?_
   refine ai.val rfl (aa rfl) rfl ?_
   refine ai.nil ?_
   exact ⟨⟨x19,(IntKind.wrap .i64 (x14 + 1))⟩,_,_,S17,.refl _ _,.refl _,(ae.r rfl (ae.r rfl (ae.r rfl (ae.r rfl ae.nil)))),H18.sl [0] rfl rfl,h⟩
  refine aj.block ?_
  refine aj.seq ?_
  refine aj.region E.obj rfl ?_
  refine ai.val rfl (aa rfl) rfl ?_
  refine ai.val rfl (ah rfl) rfl ?_
  refine ai.nil ?_
  refine aj.seq ?_
  refine aj.region E.obj rfl ?_
  refine ai.val rfl (aa rfl) rfl ?_
  refine ai.val rfl (aa rfl) rfl ?_
  obtain ⟨z21,hzz21,h⟩:=bind_some h
  refine ai.val rfl (iH rfl rfl (fH hzz21).1 pR (fH hzz21).2) rfl ?_
  refine ai.val rfl (ah rfl) rfl ?_
  refine ai.nil ?_
  refine aj.seq ?_
  refine aj.seq ?_
  refine aj.region E.obj rfl ?_
  refine ai.val rfl (aa rfl) rfl ?_
  obtain ⟨z22,hzz22,h⟩:=bind_some h
  refine ai.ret rfl (aA rfl rfl) (o9 E _ _ _ hzz22 _ _ (au.eq .nil)) rfl ?_
  refine ai.nil ?_
  refine aj.cond rfl (fun hb23=>?_) (fun hb23=>?_)
  ·
   replace h:=bL hb23 h
   refine aj.seq ?_
   refine aj.region E.obj rfl ?_
   refine ai.val rfl (aa rfl) rfl ?_
   obtain ⟨z26,hzz26,h⟩:=bind_some h
   refine ai.wb E.bld H12 rfl rfl (i:=0) rfl hzz26 rfl (fun S24 H25=>?_)
   refine ai.nil ?_
   refine aj.exit ?_
   exact ⟨z26,_,_,S24,.refl _ _,.refl _,(ae.r rfl (ae.r rfl (ae.r rfl (ae.r rfl ae.nil)))),H25.sl [0] rfl rfl,h⟩
  replace h:=bN hb23 h
  refine aj.skip ?_
  refine aj.seq ?_
  refine aj.region E.obj rfl ?_
  obtain ⟨z29,hzz29,h⟩:=bind_some h
  refine ai.wb E.bld H12 rfl rfl (i:=0) rfl hzz29 rfl (fun S27 H28=>?_)
  refine ai.nil ?_
  refine aj.seq ?_
  refine aj.region E.obj rfl ?_
  refine ai.val rfl (aa rfl) rfl ?_
  obtain ⟨z30,hzz30,h⟩:=bind_some h
  refine ai.val rfl (ak rfl rfl (zw hzz30)) rfl ?_
  obtain ⟨z31,hzz31,h⟩:=bind_some h
  refine ai.val rfl (iH rfl rfl (fH hzz31).1 pR (fH hzz31).2) rfl ?_
  obtain ⟨z34,hzz34,h⟩:=bind_some h
  refine ai.wb E.bld H28 rfl rfl (i:=0) rfl hzz34 rfl (fun S32 H33=>?_)
  refine ai.nil ?_
  refine aj.region E.obj rfl ?_
  refine ai.val rfl (aa rfl) rfl ?_
  refine ai.val rfl (ak rfl rfl zV) rfl ?_
  obtain ⟨z35,hzz35,h⟩:=bind_some h
  refine ai.val rfl (iH rfl rfl (fH hzz35).1 pR (fH hzz35).2) rfl ?_
  obtain ⟨z38,hzz38,h⟩:=bind_some h
  refine ai.wb E.bld H33 rfl rfl (i:=0) rfl hzz38 rfl (fun S36 H37=>?_)
  refine ai.nil ?_
  exact ⟨z38,_,_,S36,.refl _ _,.refl _,(ae.r rfl (ae.r rfl (ae.r rfl (ae.r rfl ae.nil)))),H37.sl [0] rfl rfl,h⟩
 replace h:=bN hb16 h
 refine aj.exit ?_
 refine aj.seq ?_
 refine aj.region E.obj rfl ?_
 refine ai.st E.bld H12 rfl rfl (i:=0) rfl rfl (fun S39 H40=>?_)
 refine ai.val rfl (ah rfl) rfl ?_
 refine ai.nil ?_
 have hr:=Option.some.inj h
 subst hr
 exact aj.ret ⟨_,rfl,rfl,eF (au.eq .nil)⟩
set_option maxRecDepth 20000 in
set_option maxHeartbeats 4000000 in
theorem qO (n:Nat) (a1:(List Str)) (r:Str) (h:iR n a1=some r):aY R cfg.P 23 [(.sl ((a1).map D.str) false)] (.d (.str r)):=by
 unfold iR at h
 refine aY.of_wp E.obj.toObjOk (C:=cfg) Tryd.func23 rfl Du rfl ?_
 have H0:Has ax ax []:=Has.pure
 refine aj.seq ?_
 refine aj.region E.obj rfl ?_
 refine ai.val rfl (ah rfl) rfl ?_
 refine ai.nil ?_
 refine aj.seq ?_
 refine aj.region E.obj rfl ?_
 refine ai.val rfl (ah rfl) rfl ?_
 refine ai.nil ?_
 refine aj.seq ?_
 refine aj.seq ?_
 refine aj.region E.obj rfl ?_
 refine ai.val rfl (aa rfl) rfl ?_
 refine ai.val rfl (aR rfl mr) rfl ?_
 refine ai.val rfl (aa rfl) rfl ?_
 refine ai.nil ?_
 refine aj.block ?_
 have H23:=H0.vz
 refine lZ.start (B:=ax) (α:=(List Str) × AV × Int) (fun k a=>bQ n a1 k a.1 a.2.2=some r) (fun a=>[(3,a.2.1),(6,(.d (.sl ((a1).map D.str) false))),(7,(.d (.int .i64 ((a1).length:Int)))),(8,(.d (.int .i64 a.2.2)))]) (fun a=>[.grow a.2.1 ((a.1).map D.str)]) ?_ ?_ n ⟨⟨[],(.d .bK),0⟩,_,_,ax,.refl _ _,.refl _,(ae.r rfl (ae.r rfl (ae.r rfl (ae.r rfl ae.nil)))),H23.sl [0] rfl rfl,h⟩
 ·
  intro a h; simp [bQ] at h
 intro k14 a S9 H10 h
 obtain ⟨x11,v12,x13⟩:=a
 replace h:bQ n a1 (k14 + 1) x11 x13=some r:=h
 replace H10:Has ax S9 [.grow v12 ((x11).map D.str)]:=H10
 unfold bQ at h
 refine aj.seq ?_
 refine aj.region E.obj rfl ?_
 refine ai.val rfl (ak rfl rfl bV) rfl ?_
 refine ai.nil ?_
 refine aj.seq ?_
 refine aj.cond rfl (fun hb15=>?_) (fun hb15=>?_)
 ·
  replace h:=bL hb15 h
  refine aj.skip ?_
  refine aj.seq ?_
  refine aj.block ?_
  refine aj.seq ?_
  refine aj.region E.obj rfl ?_
  obtain ⟨z16,hzz16,h⟩:=bind_some h
  refine ai.val rfl (bF rfl rfl (bU (enc:=D.str) hzz16 fV xO (((fun _=>rfl) _).trans jy.symm))) rfl ?_
  refine ai.val rfl (aT rfl (cz kK rfl)) rfl ?_
  refine ai.val rfl (ah rfl) rfl ?_
  refine ai.nil ?_
  refine aj.region E.obj rfl ?_
  refine ai.val rfl (aa rfl) rfl ?_
  refine ai.val rfl (aa rfl) rfl ?_
  obtain ⟨z17,hzz17,h⟩:=bind_some h
  refine ai.ret rfl (aA rfl rfl) (uj E _ _ _ hzz17 _ _ (au.eq .nil)) rfl ?_
  refine ai.val rfl (aL (vs:=[(.d (.str z17))]) (ds:=[(.str z17)]) jY fV kK za jy rfl (by decide) (.cons rfl rfl .nil) rfl (by intro d hd; simp only [List.mem_cons,List.not_mem_nil,or_false] at hd; rcases hd with rfl <;> rfl) rfl) rfl ?_
  obtain ⟨z18,hzz18,h⟩:=bind_some h
  refine ai.append (xs:=(x11).map D.str) (ys:=([z17]).map D.str) (zs:=(z18).map D.str) H10 rfl rfl rfl (i:=0) rfl rfl jY uz fV (cu hzz18) AZ rfl (aN (enc:=D.str) (fun _=>jy.symm) _) (aN (enc:=D.str) (fun _=>jy.symm) _) A9 rfl (eZ hzz18) (fun v19 S20 H21=>?_)
  refine ai.val rfl (ah rfl) rfl ?_
  refine ai.nil ?_
  refine aj.region E.obj rfl ?_
  refine ai.val rfl (ak rfl rfl bY) rfl ?_
  refine ai.val rfl (aa rfl) rfl ?_
  refine ai.nil ?_
  exact ⟨⟨z18,v19,(IntKind.wrap .i64 (x13 + 1))⟩,_,_,S20,.refl _ _,.refl _,(ae.r rfl (ae.r rfl (ae.r rfl (ae.r rfl ae.nil)))),H21.sl [0] rfl rfl,h⟩
 replace h:=bN hb15 h
 refine aj.exit ?_
 refine aj.seq ?_
 refine aj.region E.obj rfl ?_
 refine ai.val rfl (aa rfl) rfl ?_
 obtain ⟨z22,hzz22,h⟩:=bind_some h
 refine ai.ret rfl (aA rfl rfl) (E.strings_Join_ok _ _ _ _ hzz22 _ _ (au.grow H10 (i:=0) rfl (au.eq .nil))) rfl ?_
 refine ai.val rfl (ah rfl) rfl ?_
 refine ai.nil ?_
 have hr:=Option.some.inj h
 subst hr
 exact aj.ret ⟨_,rfl,rfl,eF (au.eq .nil)⟩
set_option maxRecDepth 20000 in
set_option maxHeartbeats 4000000 in
theorem gW (n:Nat) (a1:(List Seg)) (a2:(List Str)) (r:((List aG) × Bool)) (h:eu n a1 a2=some r):aY R cfg.P 8 [(.sl ((a1).map aM) false),(.sl ((a2).map D.str) false)] (.tup [.d (.sl ((r.1).map av) false),.d (.bool r.2)]):=by
 unfold eu at h
 refine aY.of_wp E.obj.toObjOk (C:=cfg) Tryd.func8 rfl Ez rfl ?_
 have H0:Has ax ax []:=Has.pure
 refine aj.seq ?_
 refine aj.region E.obj rfl ?_
 refine ai.val rfl (ah rfl) rfl ?_
 refine ai.val rfl (ah rfl) rfl ?_
 refine ai.nil ?_
 refine aj.seq ?_
 refine aj.seq ?_
 refine aj.region E.obj rfl ?_
 refine ai.val rfl (aa rfl) rfl ?_
 obtain ⟨z3,hzz3,h⟩:=bind_some h
 refine ai.ret rfl (aA rfl rfl) (gT E _ _ _ hzz3 _ _ (au.eq .nil)) rfl ?_
 refine ai.val rfl (bu rfl) rfl ?_
 refine ai.nil ?_
 refine aj.cond rfl (fun hb4=>?_) (fun hb4=>?_)
 ·
  replace h:=bL hb4 h
  refine aj.seq ?_
  refine aj.region E.obj rfl ?_
  refine ai.val rfl (ah rfl) rfl ?_
  refine ai.val rfl (ah rfl) rfl ?_
  refine ai.nil ?_
  have hr:=Option.some.inj h
  subst hr
  exact aj.ret ⟨_,rfl,rfl,gI (vs:=[(.d .bK),(.d (.bool false))]) (ds:=[(.sl (([]).map av) false),(.bool false)]) (au.fF rfl (.bK false) (au.eq .nil))⟩
 replace h:=bN hb4 h
 refine aj.skip ?_
 refine aj.seq ?_
 refine aj.region E.obj rfl ?_
 refine ai.val rfl (ah rfl) rfl ?_
 refine ai.nil ?_
 refine aj.seq ?_
 refine aj.seq ?_
 refine aj.region E.obj rfl ?_
 refine ai.val rfl (aa rfl) rfl ?_
 refine ai.val rfl (aR rfl wP) rfl ?_
 refine ai.val rfl (aa rfl) rfl ?_
 refine ai.nil ?_
 refine aj.block ?_
 have H53:=H0.vz
 refine lZ.start (B:=ax) (α:=(List Str) × (List aG) × AV × Int) (fun k a=>bJ n a1 k a.1 a.2.1 a.2.2.2=some r) (fun a=>[(1,(.d (.sl ((a.1).map D.str) false))),(6,a.2.2.1),(13,(.d (.sl ((a1).map aM) false))),(14,(.d (.int .i64 ((a1).length:Int)))),(15,(.d (.int .i64 a.2.2.2)))]) (fun a=>[.grow a.2.2.1 ((a.2.1).map av)]) ?_ ?_ n ⟨⟨a2,[],(.d .bK),0⟩,_,_,ax,.refl _ _,.refl _,(ae.r rfl (ae.r rfl (ae.r rfl (ae.r rfl (ae.r rfl ae.nil))))),H53.sl [0] rfl rfl,h⟩
 ·
  intro a h; simp [bJ] at h
 intro k19 a S13 H14 h
 obtain ⟨x15,x16,v17,x18⟩:=a
 replace h:bJ n a1 (k19 + 1) x15 x16 x18=some r:=h
 replace H14:Has ax S13 [.grow v17 ((x16).map av)]:=H14
 unfold bJ at h
 refine aj.seq ?_
 refine aj.region E.obj rfl ?_
 refine ai.val rfl (ak rfl rfl bV) rfl ?_
 refine ai.nil ?_
 refine aj.seq ?_
 refine aj.cond rfl (fun hb20=>?_) (fun hb20=>?_)
 ·
  replace h:=bL hb20 h
  refine aj.skip ?_
  refine aj.join (B:=ax) (α:=(List Str) × (List aG) × AV) (fun a=>dU x18 (bJ n a1 k19) a.1 a.2.1=some r) (fun a=>[(1,(.d (.sl ((a.1).map D.str) false))),(6,a.2.2),(13,(.d (.sl ((a1).map aM) false))),(14,(.d (.int .i64 ((a1).length:Int)))),(15,(.d (.int .i64 x18)))]) (fun a=>[.grow a.2.2 ((a.2.1).map av)]) ?_ ?_
  ·
   intro a S21 H22 h
   obtain ⟨x23,x24,v25⟩:=a
   replace h:dU x18 (bJ n a1 k19) x23 x24=some r:=h
   replace H22:Has ax S21 [.grow v25 ((x24).map av)]:=H22
   unfold dU at h
   refine aj.region E.obj rfl ?_
   refine ai.val rfl (ak rfl rfl bY) rfl ?_
   refine ai.val rfl (aa rfl) rfl ?_
   refine ai.nil ?_
   exact ⟨⟨x23,x24,v25,(IntKind.wrap .i64 (x18 + 1))⟩,_,_,S21,.refl _ _,.refl _,(ae.r rfl (ae.r rfl (ae.r rfl (ae.r rfl (ae.r rfl ae.nil))))),H22.sl [0] rfl rfl,h⟩
  refine aj.block ?_
  refine aj.seq ?_
  refine aj.region E.obj rfl ?_
  obtain ⟨z27,hzz27,h⟩:=bind_some h
  refine ai.val rfl (bF rfl rfl (bU (enc:=aM) hzz27 qM pE ((Seg.len _).trans gN.symm))) rfl ?_
  refine ai.val rfl (aT rfl (Seg.kS pO gN)) rfl ?_
  refine ai.alloc H14 rfl y9 nM rfl rfl (fun b28 S29 H30=>?_)
  refine ai.store H30 (i:=0) rfl rfl rfl rfl (Seg.dX _) rfl gN rfl pE rfl rfl rfl (fun S31 H32=>?_)
  refine ai.nil ?_
  refine aj.seq ?_
  refine aj.seq ?_
  refine aj.region E.obj rfl ?_
  refine ai.val rfl (az rfl iT yK rfl) rfl ?_
  refine ai.val rfl (aK H32 (i:=0) rfl rfl (aS uA rfl)) rfl ?_
  refine ai.val rfl (ak rfl rfl dH) rfl ?_
  refine ai.nil ?_
  refine aj.cond rfl (fun hb33=>?_) (fun hb33=>?_)
  ·
   replace h:=bL hb33 h
   refine aj.seq ?_
   obtain ⟨z34,hzz34,h⟩:=bind_some h
   obtain ⟨z35,hzz35,h⟩:=bind_some h
   refine aj.nO E.obj um Em [(4,some 8),(5,some 9)] (by kernel_rfl) [7] (by decide) [some v17,some (.ptr b28 0 1),some (.d (.str z27.Text)),some (.d (.sl ((x15).map D.str) false)),some (.d (.str z34)),some (.d (av (aG.mk z27.Text z34))),some (.d (.sl (([(aG.mk z27.Text z34)]).map av) true)),none,none,none] ?_
   refine ⟨[0,1,2,3,4,5,6],by kernel_rfl,?_,_,_,rfl,rfl,.step ?_⟩
   ·
    refine .v rfl rfl rfl rfl (aa rfl) ?_
    refine .v rfl rfl rfl rfl (az rfl kP xN rfl) ?_
    refine .v rfl rfl rfl rfl (aK H32 (i:=0) rfl rfl (aS kK rfl)) ?_
    refine .v rfl rfl rfl rfl (aa rfl) ?_
    refine .cons rfl rfl rfl (.step ?_) ?_
    ·
     refine ai.ret rfl (aA rfl rfl) (qO E _ _ _ hzz34 _ _ (au.eq .nil)) rfl ?_
     exact ai.nil ⟨_,_,rfl,fun _ ht=>by cases ht; exact ⟨rfl,.refl _⟩⟩
    refine .cons rfl rfl rfl (.step ?_) ?_
    ·
     refine ai.val rfl (cK (cs:=[(.d (.str z27.Text)),(.d (.str z34))]) j4 rfl (dz) (dW rfl rfl rfl rfl (dW rfl rfl rfl rfl rfl))) rfl ?_
     refine ai.less (Less.agg' (d:=av (aG.mk z27.Text z34)) (aQ.eq rfl (aQ.eq rfl .nil)) ((aG.eq _).trans rfl)) ?_
     exact ai.nil ⟨_,_,rfl,fun _ ht=>by cases ht; exact ⟨rfl,.refl _⟩⟩
    refine .v rfl rfl rfl rfl (aL (vs:=[(.d (av (aG.mk z27.Text z34)))]) (ds:=[(av (aG.mk z27.Text z34))]) kJ iB lT j4 eO rfl (by decide) (.cons rfl (aG.len _) .nil) rfl (by intro d hd; simp only [List.mem_cons,List.not_mem_nil,or_false] at hd; rcases hd with rfl <;> exact aG.agg _) rfl) ?_
    exact .nil
   refine ai.append (xs:=(x16).map av) (ys:=([(aG.mk z27.Text z34)]).map av) (zs:=(z35).map av) H32 rfl rfl rfl (i:=1) rfl rfl kJ vS iB (cu hzz35) vT rfl (aN (enc:=av) (fun z=>(aG.len z).trans eO.symm) _) (aN (enc:=av) (fun z=>(aG.len z).trans eO.symm) _) wz rfl (eZ hzz35) (fun v39 S40 H41=>?_)
   refine ai.nil ⟨_,_,_,rfl,(fun _ ht=>by cases ht; rfl),_,(.q (.o (.o (.o (.w v39 (.w v39 (.w (.d (.bool true)) .nil))))))),(fun _ ht=>by cases ht; exact ⟨_,rfl,.refl _⟩),?_⟩
   refine ⟨[8,9],by kernel_rfl,?_,_,rfl,?_⟩
   ·
    refine .v rfl rfl rfl rfl (ah rfl) ?_
    refine .v rfl rfl rfl rfl (ah rfl) ?_
    exact .nil
   have hr:=Option.some.inj h
   subst hr
   exact aj.ret ⟨_,rfl,rfl,gI (vs:=[v39,(.d (.bool true))]) (ds:=[(.sl ((z35).map av) false),(.bool true)]) (au.grow H41 (i:=1) rfl (au.eq .nil))⟩
  replace h:=bN hb33 h
  refine aj.skip ?_
  refine aj.seq ?_
  refine aj.seq ?_
  refine aj.region E.obj rfl ?_
  refine ai.val rfl (aa rfl) rfl ?_
  refine ai.val rfl (aR rfl mr) rfl ?_
  refine ai.val rfl (ak rfl rfl dH) rfl ?_
  refine ai.nil ?_
  refine aj.cond rfl (fun hb42=>?_) (fun hb42=>?_)
  ·
   replace h:=bL hb42 h
   refine aj.seq ?_
   refine aj.seq ?_
   refine aj.region E.obj rfl ?_
   refine ai.val rfl (az rfl iT yK rfl) rfl ?_
   refine ai.val rfl (aK H32 (i:=0) rfl rfl (aS uA rfl)) rfl ?_
   refine ai.val rfl (ak rfl rfl dH) rfl ?_
   refine ai.nil ?_
   refine aj.cond rfl (fun hb43=>?_) (fun hb43=>?_)
   ·
    replace h:=bL hb43 h
    refine aj.seq ?_
    refine aj.region E.obj rfl ?_
    refine ai.val rfl (aa rfl) rfl ?_
    refine ai.val rfl (ah rfl) rfl ?_
    refine ai.val rfl (ah rfl) rfl ?_
    refine ai.nil ?_
    have hr:=Option.some.inj h
    subst hr
    exact aj.ret ⟨_,rfl,rfl,gI (vs:=[v17,(.d (.bool true))]) (ds:=[(.sl ((x16).map av) false),(.bool true)]) (au.grow H32 (i:=1) rfl (au.eq .nil))⟩
   replace h:=bN hb43 h
   refine aj.skip ?_
   refine aj.seq ?_
   refine aj.region E.obj rfl ?_
   refine ai.val rfl (ah rfl) rfl ?_
   refine ai.val rfl (ah rfl) rfl ?_
   refine ai.nil ?_
   have hr:=Option.some.inj h
   subst hr
   exact aj.ret ⟨_,rfl,rfl,gI (vs:=[(.d .bK),(.d (.bool false))]) (ds:=[(.sl (([]).map av) false),(.bool false)]) (au.fF rfl (.bK false) (au.eq .nil))⟩
  replace h:=bN hb42 h
  refine aj.skip ?_
  refine aj.seq ?_
  refine aj.region E.obj rfl ?_
  refine ai.val rfl (aa rfl) rfl ?_
  obtain ⟨z44,hzz44,h⟩:=bind_some h
  refine ai.val rfl (bF rfl rfl (bU (enc:=D.str) hzz44 fV xO (((fun _=>rfl) _).trans jy.symm))) rfl ?_
  refine ai.val rfl (aT rfl (cz kK rfl)) rfl ?_
  refine ai.val rfl (ah rfl) rfl ?_
  refine ai.nil ?_
  refine aj.seq ?_
  refine aj.region E.obj rfl ?_
  refine ai.val rfl (aa rfl) rfl ?_
  obtain ⟨z45,hzz45,h⟩:=bind_some h
  refine ai.val rfl (sN rfl rfl fV Dh (fun z=>((fun _=>rfl) z).trans jy.symm) hzz45) rfl ?_
  refine ai.val rfl (ah rfl) rfl ?_
  refine ai.nil ?_
  refine aj.seq ?_
  refine aj.region E.obj rfl ?_
  refine ai.val rfl (az rfl iT yK rfl) rfl ?_
  refine ai.val rfl (aK H32 (i:=0) rfl rfl (aS uA rfl)) rfl ?_
  refine ai.val rfl (ak rfl rfl kT) rfl ?_
  refine ai.nil ?_
  refine aj.cond rfl (fun hb46=>?_) (fun hb46=>?_)
  ·
   replace h:=bL hb46 h
   refine aj.region E.obj rfl ?_
   refine ai.val rfl (aa rfl) rfl ?_
   refine ai.val rfl (az rfl kP xN rfl) rfl ?_
   refine ai.val rfl (aK H32 (i:=0) rfl rfl (aS kK rfl)) rfl ?_
   refine ai.val rfl (aa rfl) rfl ?_
   refine ai.val rfl (cK (cs:=[(.d (.str z27.Text)),(.d (.str z44))]) j4 rfl (dz) (dW rfl rfl rfl rfl (dW rfl rfl rfl rfl rfl))) rfl ?_
   refine ai.less (Less.agg' (d:=av (aG.mk z27.Text z44)) (aQ.eq rfl (aQ.eq rfl .nil)) ((aG.eq _).trans rfl)) ?_
   refine ai.val rfl (aL (vs:=[(.d (av (aG.mk z27.Text z44)))]) (ds:=[(av (aG.mk z27.Text z44))]) kJ iB lT j4 eO rfl (by decide) (.cons rfl (aG.len _) .nil) rfl (by intro d hd; simp only [List.mem_cons,List.not_mem_nil,or_false] at hd; rcases hd with rfl <;> exact aG.agg _) rfl) rfl ?_
   obtain ⟨z47,hzz47,h⟩:=bind_some h
   refine ai.append (xs:=(x16).map av) (ys:=([(aG.mk z27.Text z44)]).map av) (zs:=(z47).map av) H32 rfl rfl rfl (i:=1) rfl rfl kJ vS iB (cu hzz47) vT rfl (aN (enc:=av) (fun z=>(aG.len z).trans eO.symm) _) (aN (enc:=av) (fun z=>(aG.len z).trans eO.symm) _) wz rfl (eZ hzz47) (fun v48 S49 H50=>?_)
   refine ai.val rfl (ah rfl) rfl ?_
   refine ai.nil ?_
   exact ⟨⟨z45,z47,v48⟩,_,_,S49,.refl _ _,.refl _,(ae.r rfl (ae.r rfl (ae.r rfl (ae.r rfl (ae.r rfl ae.nil))))),H50.sl [1] rfl rfl,h⟩
  replace h:=bN hb46 h
  refine aj.seq ?_
  refine aj.region E.obj rfl ?_
  refine ai.val rfl (aa rfl) rfl ?_
  refine ai.val rfl (az rfl kP xN rfl) rfl ?_
  refine ai.val rfl (aK H32 (i:=0) rfl rfl (aS kK rfl)) rfl ?_
  refine ai.val rfl (ak rfl rfl lg) rfl ?_
  refine ai.nil ?_
  refine aj.cond rfl (fun hb51=>?_) (fun hb51=>?_)
  ·
   replace h:=bL hb51 h
   refine aj.seq ?_
   refine aj.region E.obj rfl ?_
   refine ai.val rfl (ah rfl) rfl ?_
   refine ai.val rfl (ah rfl) rfl ?_
   refine ai.nil ?_
   have hr:=Option.some.inj h
   subst hr
   exact aj.ret ⟨_,rfl,rfl,gI (vs:=[(.d .bK),(.d (.bool false))]) (ds:=[(.sl (([]).map av) false),(.bool false)]) (au.fF rfl (.bK false) (au.eq .nil))⟩
  replace h:=bN hb51 h
  refine aj.skip ?_
  exact ⟨⟨z45,x16,v17⟩,_,_,S31,.refl _ _,.refl _,(ae.r rfl (ae.r rfl (ae.r rfl (ae.r rfl (ae.r rfl ae.nil))))),H32.sl [1] rfl rfl,h⟩
 replace h:=bN hb20 h
 refine aj.exit ?_
 refine aj.seq ?_
 refine aj.seq ?_
 refine aj.region E.obj rfl ?_
 refine ai.val rfl (aa rfl) rfl ?_
 refine ai.val rfl (aR rfl mr) rfl ?_
 refine ai.val rfl (ak rfl rfl lq) rfl ?_
 refine ai.nil ?_
 refine aj.cond rfl (fun hb52=>?_) (fun hb52=>?_)
 ·
  replace h:=bL hb52 h
  refine aj.seq ?_
  refine aj.region E.obj rfl ?_
  refine ai.val rfl (ah rfl) rfl ?_
  refine ai.val rfl (ah rfl) rfl ?_
  refine ai.nil ?_
  have hr:=Option.some.inj h
  subst hr
  exact aj.ret ⟨_,rfl,rfl,gI (vs:=[(.d .bK),(.d (.bool false))]) (ds:=[(.sl (([]).map av) false),(.bool false)]) (au.fF rfl (.bK false) (au.eq .nil))⟩
 replace h:=bN hb52 h
 refine aj.skip ?_
 refine aj.seq ?_
 refine aj.region E.obj rfl ?_
 refine ai.val rfl (aa rfl) rfl ?_
 refine ai.val rfl (ah rfl) rfl ?_
 refine ai.val rfl (ah rfl) rfl ?_
 refine ai.nil ?_
 have hr:=Option.some.inj h
 subst hr
 exact aj.ret ⟨_,rfl,rfl,gI (vs:=[v17,(.d (.bool true))]) (ds:=[(.sl ((x16).map av) false),(.bool true)]) (au.grow H14 (i:=0) rfl (au.eq .nil))⟩
set_option maxRecDepth 20000 in
set_option maxHeartbeats 4000000 in
theorem x9 (n:Nat) (a1:lh) (a2:Str) (r:(Str × Bool)) (h:rD n a1 a2=some r):aY R cfg.P 57 [(kH a1),(.str a2)] (.tup [.d (.str r.1),.d (.bool r.2)]):=by
 unfold rD at h
 refine aY.of_wp E.obj.toObjOk (C:=cfg) Tryd.func57 rfl Dw rfl ?_
 have H0:Has ax ax []:=Has.pure
 refine aj.seq ?_
 refine aj.region E.obj rfl ?_
 refine ai.box H0 rfl rfl rfl (lh.dX _) rfl (fun b3 S4 H5=>?_)
 refine ai.val rfl (ah rfl) rfl ?_
 refine ai.val rfl (ah rfl) rfl ?_
 refine ai.nil ?_
 refine aj.seq ?_
 refine aj.seq ?_
 refine aj.region E.obj rfl ?_
 refine ai.val rfl (az rfl rM Ar rfl) rfl ?_
 refine ai.val rfl (aK H5 (i:=0) rfl rfl (aS Bh rfl)) rfl ?_
 refine ai.val rfl (aR rfl tY) rfl ?_
 refine ai.val rfl (aa rfl) rfl ?_
 refine ai.nil ?_
 refine aj.block ?_
 refine lZ.start (B:=ax) (α:=Int) (fun k a=>dY a1 a2 k a=some r) (fun a=>[(1,(.d (.str a2))),(9,(.d (.sl ((a1.Query).map av) false))),(10,(.d (.int .i64 ((a1.Query).length:Int)))),(11,(.d (.int .i64 a)))]) (fun a=>[]) ?_ ?_ n ⟨0,_,_,S4,.refl _ _,.refl _,(ae.r rfl (ae.r rfl (ae.r rfl (ae.r rfl ae.nil)))),H5.sl [] rfl rfl,h⟩
 ·
  intro a h; simp [dY] at h
 intro k14 x13 S11 H12 h
 replace h:dY a1 a2 (k14 + 1) x13=some r:=h
 replace H12:Has ax S11 []:=H12
 unfold dY at h
 refine aj.seq ?_
 refine aj.region E.obj rfl ?_
 refine ai.val rfl (ak rfl rfl bV) rfl ?_
 refine ai.nil ?_
 refine aj.seq ?_
 refine aj.cond rfl (fun hb15=>?_) (fun hb15=>?_)
 ·
  replace h:=bL hb15 h
  refine aj.skip ?_
  refine aj.seq ?_
  refine aj.block ?_
  refine aj.seq ?_
  refine aj.region E.obj rfl ?_
  obtain ⟨z16,hzz16,h⟩:=bind_some h
  refine ai.val rfl (bF rfl rfl (bU (enc:=av) hzz16 iB uB ((aG.len _).trans eO.symm))) rfl ?_
  refine ai.val rfl (aT rfl (aG.kS lT eO)) rfl ?_
  refine ai.alloc H12 rfl BU j4 rfl rfl (fun b17 S18 H19=>?_)
  refine ai.store H19 (i:=0) rfl rfl rfl rfl (aG.dX _) rfl eO rfl uB rfl rfl rfl (fun S20 H21=>?_)
  refine ai.nil ?_
  refine aj.seq ?_
  refine aj.region E.obj rfl ?_
  refine ai.val rfl (az rfl yC xN rfl) rfl ?_
  refine ai.val rfl (aK H21 (i:=0) rfl rfl (aS kK rfl)) rfl ?_
  refine ai.val rfl (aa rfl) rfl ?_
  refine ai.val rfl (ak rfl rfl je) rfl ?_
  refine ai.nil ?_
  refine aj.cond rfl (fun hb22=>?_) (fun hb22=>?_)
  ·
   replace h:=bL hb22 h
   refine aj.seq ?_
   refine aj.region E.obj rfl ?_
   refine ai.val rfl (az rfl yo xN rfl) rfl ?_
   refine ai.val rfl (aK H21 (i:=0) rfl rfl (aS kK rfl)) rfl ?_
   refine ai.val rfl (ah rfl) rfl ?_
   refine ai.val rfl (ah rfl) rfl ?_
   refine ai.nil ?_
   have hr:=Option.some.inj h
   subst hr
   exact aj.ret ⟨_,rfl,rfl,gI (vs:=[(.d (.str z16.Value)),(.d (.bool true))]) (ds:=[(.str z16.Value),(.bool true)]) (au.eq (au.eq .nil))⟩
  replace h:=bN hb22 h
  refine aj.skip ?_
  refine aj.region E.obj rfl ?_
  refine ai.val rfl (ak rfl rfl bY) rfl ?_
  refine ai.val rfl (aa rfl) rfl ?_
  refine ai.nil ?_
  exact ⟨(IntKind.wrap .i64 (x13 + 1)),_,_,S20,.refl _ _,.refl _,(ae.r rfl (ae.r rfl (ae.r rfl (ae.r rfl ae.nil)))),H21.sl [] rfl rfl,h⟩
 replace h:=bN hb15 h
 refine aj.exit ?_
 refine aj.seq ?_
 refine aj.region E.obj rfl ?_
 refine ai.val rfl (ah rfl) rfl ?_
 refine ai.val rfl (ah rfl) rfl ?_
 refine ai.nil ?_
 have hr:=Option.some.inj h
 subst hr
 exact aj.ret ⟨_,rfl,rfl,gI (vs:=[(.d (.str [])),(.d (.bool false))]) (ds:=[(.str []),(.bool false)]) (au.eq (au.eq .nil))⟩
set_option maxRecDepth 20000 in
set_option maxHeartbeats 4000000 in
theorem lD (n:Nat) (a1:(List aG)) (a2:Str) (r:(Str × Bool)) (h:gz n a1 a2=some r):aY R cfg.P 45 [(.sl ((a1).map av) false),(.str a2)] (.tup [.d (.str r.1),.d (.bool r.2)]):=by
 unfold gz at h
 refine aY.of_wp E.obj.toObjOk (C:=cfg) Tryd.func45 rfl DW rfl ?_
 have H0:Has ax ax []:=Has.pure
 refine aj.seq ?_
 refine aj.region E.obj rfl ?_
 refine ai.val rfl (ah rfl) rfl ?_
 refine ai.val rfl (ah rfl) rfl ?_
 refine ai.nil ?_
 refine aj.seq ?_
 refine aj.region E.obj rfl ?_
 refine ai.val rfl (aa rfl) rfl ?_
 refine ai.val rfl (cK (cs:=[(.d .bK),(.d (.sl ((a1).map av) false))]) Bw rfl (mQ) (dW rfl rfl rfl rfl rfl)) rfl ?_
 refine ai.less (Less.agg' (d:=kH (lh.mk [] a1)) (aQ.fF rfl (.bK false) rfl rfl (aQ.eq rfl .nil)) ((lh.eq _).trans rfl)) ?_
 refine ai.val rfl (aa rfl) rfl ?_
 obtain ⟨z3,hzz3,h⟩:=bind_some h
 refine ai.ret rfl (aA rfl rfl) (x9 E _ _ _ _ hzz3 _ _ (au.eq (au.eq .nil))) rfl ?_
 refine ai.val rfl (aC rfl rfl) rfl ?_
 refine ai.val rfl (aC rfl rfl) rfl ?_
 refine ai.val rfl (ah rfl) rfl ?_
 refine ai.val rfl (ah rfl) rfl ?_
 refine ai.nil ?_
 have hr:=Option.some.inj h
 subst hr
 exact aj.ret ⟨_,rfl,rfl,gI (vs:=[(.d (.str z3.1)),(.d (.bool z3.2))]) (ds:=[(.str z3.1),(.bool z3.2)]) (au.eq (au.eq .nil))⟩
set_option maxRecDepth 20000 in
set_option maxHeartbeats 4000000 in
theorem oK (n:Nat) (a1:Int) (r:Int) (h:gy n a1=some r):aY R cfg.P 74 [(.int .u8 a1)] (.d (.int .i64 r)):=by
 unfold gy at h
 refine aY.of_wp E.obj.toObjOk (C:=cfg) Tryd.func74 rfl C8 rfl ?_
 have H0:Has ax ax []:=Has.pure
 refine aj.seq ?_
 refine aj.region E.obj rfl ?_
 refine ai.val rfl (ah rfl) rfl ?_
 refine ai.nil ?_
 refine aj.seq ?_
 refine aj.block ?_
 refine aj.seq ?_
 refine aj.region E.obj rfl ?_
 refine ai.val rfl (aa rfl) rfl ?_
 refine ai.val rfl (ak rfl rfl gu) rfl ?_
 refine ai.val rfl (aa rfl) rfl ?_
 refine ai.bP 3 9 (.d (.bool ((decide (48 ≤ a1)) && (decide (a1 ≤ 57))))) ?_ ?_
 ·
  rcases Bool.eq_false_or_eq_true ((decide (48 ≤ a1))) with hB2 | hB2
  ·
   refine ai.bool hB2 ?_
   refine ai.val rfl (aa rfl) rfl ?_
   refine ai.val rfl (ak rfl rfl jm) rfl ?_
   refine ai.val rfl (ay (b:=true) rfl rfl) rfl ?_
   exact ai.nil ⟨_,rfl,(ae.put (ae.push rfl (ae.push rfl (ae.put (.refl _) (Less.eq (by rw [hB2]))))) (Less.eq (by rw [hB2]; rw [Bool.true_and])))⟩
  refine ai.bool hB2 ?_
  refine ai.no rfl rfl ?_
  refine ai.no rfl rfl ?_
  refine ai.val rfl (ay (b:=false) rfl rfl) rfl ?_
  exact ai.nil ⟨_,rfl,(ae.put (ae.push rfl (ae.push rfl (ae.put (.refl _) (Less.eq (by rw [hB2]))))) (Less.eq (by rw [hB2]; rw [Bool.false_and])))⟩
 refine ai.val rfl (ah rfl) rfl ?_
 refine ai.nil ?_
 refine aj.cond rfl (fun hb3=>?_) (fun hb3=>?_)
 ·
  replace h:=bL hb3 h
  refine aj.seq ?_
  refine aj.region E.obj rfl ?_
  refine ai.val rfl (aa rfl) rfl ?_
  refine ai.val rfl (ak rfl rfl fA) rfl ?_
  refine ai.val rfl (il rfl Dk Dj) rfl ?_
  refine ai.val rfl (ah rfl) rfl ?_
  refine ai.nil ?_
  have hr:=Option.some.inj h
  subst hr
  exact aj.ret ⟨_,rfl,rfl,eF (au.eq .nil)⟩
 replace h:=bN hb3 h
 refine aj.seq ?_
 refine aj.region E.obj rfl ?_
 refine ai.val rfl (aa rfl) rfl ?_
 refine ai.val rfl (ak rfl rfl gu) rfl ?_
 refine ai.val rfl (aa rfl) rfl ?_
 refine ai.bP 3 19 (.d (.bool ((decide (97 ≤ a1)) && (decide (a1 ≤ 102))))) ?_ ?_
 ·
  rcases Bool.eq_false_or_eq_true ((decide (97 ≤ a1))) with hB4 | hB4
  ·
   refine ai.bool hB4 ?_
   refine ai.val rfl (aa rfl) rfl ?_
   refine ai.val rfl (ak rfl rfl jm) rfl ?_
   refine ai.val rfl (ay (b:=true) rfl rfl) rfl ?_
   exact ai.nil ⟨_,rfl,(ae.put (ae.push rfl (ae.push rfl (ae.put (.refl _) (Less.eq (by rw [hB4]))))) (Less.eq (by rw [hB4]; rw [Bool.true_and])))⟩
  refine ai.bool hB4 ?_
  refine ai.no rfl rfl ?_
  refine ai.no rfl rfl ?_
  refine ai.val rfl (ay (b:=false) rfl rfl) rfl ?_
  exact ai.nil ⟨_,rfl,(ae.put (ae.push rfl (ae.push rfl (ae.put (.refl _) (Less.eq (by rw [hB4]))))) (Less.eq (by rw [hB4]; rw [Bool.false_and])))⟩
 refine ai.val rfl (ah rfl) rfl ?_
 refine ai.nil ?_
 refine aj.cond rfl (fun hb5=>?_) (fun hb5=>?_)
 ·
  replace h:=bL hb5 h
  refine aj.seq ?_
  refine aj.region E.obj rfl ?_
  refine ai.val rfl (aa rfl) rfl ?_
  refine ai.val rfl (ak rfl rfl fA) rfl ?_
  refine ai.val rfl (il rfl Dk Dj) rfl ?_
  refine ai.val rfl (ak rfl rfl bY) rfl ?_
  refine ai.val rfl (ah rfl) rfl ?_
  refine ai.nil ?_
  have hr:=Option.some.inj h
  subst hr
  exact aj.ret ⟨_,rfl,rfl,eF (au.eq .nil)⟩
 replace h:=bN hb5 h
 refine aj.seq ?_
 refine aj.region E.obj rfl ?_
 refine ai.val rfl (aa rfl) rfl ?_
 refine ai.val rfl (ak rfl rfl gu) rfl ?_
 refine ai.val rfl (aa rfl) rfl ?_
 refine ai.bP 3 30 (.d (.bool ((decide (65 ≤ a1)) && (decide (a1 ≤ 70))))) ?_ ?_
 ·
  rcases Bool.eq_false_or_eq_true ((decide (65 ≤ a1))) with hB6 | hB6
  ·
   refine ai.bool hB6 ?_
   refine ai.val rfl (aa rfl) rfl ?_
   refine ai.val rfl (ak rfl rfl jm) rfl ?_
   refine ai.val rfl (ay (b:=true) rfl rfl) rfl ?_
   exact ai.nil ⟨_,rfl,(ae.put (ae.push rfl (ae.push rfl (ae.put (.refl _) (Less.eq (by rw [hB6]))))) (Less.eq (by rw [hB6]; rw [Bool.true_and])))⟩
  refine ai.bool hB6 ?_
  refine ai.no rfl rfl ?_
  refine ai.no rfl rfl ?_
  refine ai.val rfl (ay (b:=false) rfl rfl) rfl ?_
  exact ai.nil ⟨_,rfl,(ae.put (ae.push rfl (ae.push rfl (ae.put (.refl _) (Less.eq (by rw [hB6]))))) (Less.eq (by rw [hB6]; rw [Bool.false_and])))⟩
 refine ai.val rfl (ah rfl) rfl ?_
 refine ai.nil ?_
 refine aj.cond rfl (fun hb7=>?_) (fun hb7=>?_)
 ·
  replace h:=bL hb7 h
  refine aj.seq ?_
  refine aj.region E.obj rfl ?_
  refine ai.val rfl (aa rfl) rfl ?_
  refine ai.val rfl (ak rfl rfl fA) rfl ?_
  refine ai.val rfl (il rfl Dk Dj) rfl ?_
  refine ai.val rfl (ak rfl rfl bY) rfl ?_
  refine ai.val rfl (ah rfl) rfl ?_
  refine ai.nil ?_
  have hr:=Option.some.inj h
  subst hr
  exact aj.ret ⟨_,rfl,rfl,eF (au.eq .nil)⟩
 replace h:=bN hb7 h
 refine aj.skip ?_
 refine aj.seq ?_
 refine aj.region E.obj rfl ?_
 refine ai.val rfl (ah rfl) rfl ?_
 refine ai.nil ?_
 have hr:=Option.some.inj h
 subst hr
 exact aj.ret ⟨_,rfl,rfl,eF (au.eq .nil)⟩
set_option maxRecDepth 20000 in
set_option maxHeartbeats 4000000 in
theorem uC (n:Nat) (a1:Str) (r:(Str × Bool)) (h:jZ n a1=some r):aY R cfg.P 58 [(.str a1)] (.tup [.d (.str r.1),.d (.bool r.2)]):=by
 unfold jZ at h
 refine aY.of_wp E.obj.toObjOk (C:=cfg) Tryd.func58 rfl Dt rfl ?_
 have H0:Has ax ax []:=Has.pure
 refine aj.seq ?_
 refine aj.region E.obj rfl ?_
 refine ai.val rfl (ah rfl) rfl ?_
 refine ai.val rfl (ah rfl) rfl ?_
 refine ai.nil ?_
 refine aj.seq ?_
 refine aj.region E.obj rfl ?_
 refine ai.xH H0 rfl CG rfl (fun b2 S3 H4=>?_)
 refine ai.nil ?_
 refine aj.seq ?_
 refine aj.block ?_
 refine lZ.start (B:=ax) (α:=Str × Str) (fun k a=>bW n k a.1 a.2=some r) (fun a=>[(0,(.d (.str a.2))),(4,(.ptr b2 0 0))]) (fun a=>[.obj b2 1 (.str a.1)]) ?_ ?_ n ⟨⟨[],a1⟩,_,_,S3,.refl _ _,.refl _,(ae.r rfl (ae.r rfl ae.nil)),H4.sl [0] rfl rfl,h⟩
 ·
  intro a h; simp [bW] at h
 intro k15 a S11 H12 h
 obtain ⟨x13,x14⟩:=a
 replace h:bW n (k15 + 1) x13 x14=some r:=h
 replace H12:Has ax S11 [.obj b2 1 (.str x13)]:=H12
 unfold bW at h
 refine aj.seq ?_
 refine aj.seq ?_
 refine aj.region E.obj rfl ?_
 refine ai.val rfl (aa rfl) rfl ?_
 refine ai.val rfl (ak rfl rfl lg) rfl ?_
 refine ai.nil ?_
 refine aj.cond rfl (fun hb16=>?_) (fun hb16=>?_)
 ·
  replace h:=bL hb16 h
  refine aj.skip ?_
  refine aj.block ?_
  refine aj.seq ?_
  refine aj.region E.obj rfl ?_
  refine ai.val rfl (aa rfl) rfl ?_
  obtain ⟨z17,hzz17,h⟩:=bind_some h
  refine ai.val rfl (iH rfl rfl (fH hzz17).1 pR (fH hzz17).2) rfl ?_
  refine ai.val rfl (ah rfl) rfl ?_
  refine ai.val rfl (ah rfl) rfl ?_
  refine ai.nil ?_
  refine aj.join (B:=ax) (α:=Int × Int) (fun a=>eP x13 x14 (bW n k15) a.1 a.2=some r) (fun a=>[(0,(.d (.str x14))),(4,(.ptr b2 0 0)),(5,(.d (.int .u8 a.1))),(6,(.d (.int .i64 a.2)))]) (fun a=>[.obj b2 1 (.str x13)]) ?_ ?_
  ·
   intro a S18 H19 h
   obtain ⟨x20,x21⟩:=a
   replace h:eP x13 x14 (bW n k15) x20 x21=some r:=h
   replace H19:Has ax S18 [.obj b2 1 (.str x13)]:=H19
   unfold eP at h
   refine aj.seq ?_
   refine aj.region E.obj rfl ?_
   refine ai.val rfl (aa rfl) rfl ?_
   obtain ⟨z25,hzz25,h⟩:=bind_some h
   refine ai.wb E.bld H19 rfl rfl (i:=0) rfl hzz25 rfl (fun S23 H24=>?_)
   refine ai.nil ?_
   refine aj.region E.obj rfl ?_
   refine ai.val rfl (aa rfl) rfl ?_
   refine ai.val rfl (aa rfl) rfl ?_
   obtain ⟨z26,hzz26,h⟩:=bind_some h
   refine ai.val rfl (ny rfl rfl pR hzz26) rfl ?_
   refine ai.val rfl (ah rfl) rfl ?_
   refine ai.nil ?_
   exact ⟨⟨z25,z26⟩,_,_,S23,.refl _ _,.refl _,(ae.r rfl (ae.r rfl ae.nil)),H24.sl [0] rfl rfl,h⟩
  refine aj.seq ?_
  refine aj.region E.obj rfl ?_
  refine ai.val rfl (aa rfl) rfl ?_
  refine ai.val rfl (ak rfl rfl dH) rfl ?_
  refine ai.nil ?_
  refine aj.cond rfl (fun hb27=>?_) (fun hb27=>?_)
  ·
   replace h:=bL hb27 h
   refine aj.seq ?_
   refine aj.seq ?_
   refine aj.region E.obj rfl ?_
   refine ai.val rfl (aa rfl) rfl ?_
   refine ai.val rfl (dR rfl (dN pR) rfl) rfl ?_
   refine ai.val rfl (ak rfl rfl bV) rfl ?_
   refine ai.nil ?_
   refine aj.cond rfl (fun hb28=>?_) (fun hb28=>?_)
   ·
    replace h:=bL hb28 h
    refine aj.seq ?_
    refine aj.region E.obj rfl ?_
    refine ai.val rfl (ah rfl) rfl ?_
    refine ai.val rfl (ah rfl) rfl ?_
    refine ai.nil ?_
    have hr:=Option.some.inj h
    subst hr
    exact aj.ret ⟨_,rfl,rfl,gI (vs:=[(.d (.str [])),(.d (.bool false))]) (ds:=[(.str []),(.bool false)]) (au.eq (au.eq .nil))⟩
   replace h:=bN hb28 h
   refine aj.skip ?_
   refine aj.seq ?_
   obtain ⟨z29,hzz29,h⟩:=bind_some h
   obtain ⟨z30,hzz30,h⟩:=bind_some h
   obtain ⟨z31,hzz31,h⟩:=bind_some h
   obtain ⟨z32,hzz32,h⟩:=bind_some h
   refine aj.nO E.obj um ED [(0,none),(4,none),(7,some 6),(8,some 7)] (by kernel_rfl) [] (by decide) [some (.d (.str x14)),some (.d (.int .u8 (z29.toNat:Int))),some (.d (.int .i64 z30)),some (.d (.str x14)),some (.d (.int .u8 (z31.toNat:Int))),some (.d (.int .i64 z32)),some (.d (.int .i64 z30)),some (.d (.int .i64 z32))] ?_
   refine ⟨[0,1,2,3,4,5,6,7],by kernel_rfl,?_,_,rfl,?_⟩
   ·
    refine .v rfl rfl rfl rfl (aa rfl) ?_
    refine .v rfl rfl rfl rfl (iH rfl rfl (fH hzz29).1 pR (fH hzz29).2) ?_
    refine .cons rfl rfl rfl (.step ?_) ?_
    ·
     refine ai.ret rfl (aA rfl rfl) (oK E _ _ _ hzz30 _ _ (au.eq .nil)) rfl ?_
     exact ai.nil ⟨_,_,rfl,fun _ ht=>by cases ht; exact ⟨rfl,.refl _⟩⟩
    refine .v rfl rfl rfl rfl (aa rfl) ?_
    refine .v rfl rfl rfl rfl (iH rfl rfl (fH hzz31).1 pR (fH hzz31).2) ?_
    refine .cons rfl rfl rfl (.step ?_) ?_
    ·
     refine ai.ret rfl (aA rfl rfl) (oK E _ _ _ hzz32 _ _ (au.eq .nil)) rfl ?_
     exact ai.nil ⟨_,_,rfl,fun _ ht=>by cases ht; exact ⟨rfl,.refl _⟩⟩
    refine .v rfl rfl rfl rfl (ah rfl) ?_
    refine .v rfl rfl rfl rfl (ah rfl) ?_
    exact .nil
   refine aj.seq ?_
   refine aj.seq ?_
   refine aj.region E.obj rfl ?_
   refine ai.val rfl (aa rfl) rfl ?_
   refine ai.val rfl (ak rfl rfl bV) rfl ?_
   refine ai.val rfl (aa rfl) rfl ?_
   refine ai.bP 3 29 (.d (.bool ((decide (z30 < 0)) || (decide (z32 < 0))))) ?_ ?_
   ·
    rcases Bool.eq_false_or_eq_true ((decide (z30 < 0))) with hB33 | hB33
    ·
     refine ai.bool hB33 ?_
     refine ai.no rfl rfl ?_
     refine ai.no rfl rfl ?_
     refine ai.val rfl (ay (b:=true) rfl rfl) rfl ?_
     exact ai.nil ⟨_,rfl,(ae.put (ae.push rfl (ae.push rfl (ae.put (.refl _) (Less.eq (by rw [hB33]))))) (Less.eq (by rw [hB33]; rw [Bool.true_or])))⟩
    refine ai.bool hB33 ?_
    refine ai.val rfl (aa rfl) rfl ?_
    refine ai.val rfl (ak rfl rfl bV) rfl ?_
    refine ai.val rfl (ay (b:=false) rfl rfl) rfl ?_
    exact ai.nil ⟨_,rfl,(ae.put (ae.push rfl (ae.push rfl (ae.put (.refl _) (Less.eq (by rw [hB33]))))) (Less.eq (by rw [hB33]; rw [Bool.false_or])))⟩
   refine ai.nil ?_
   refine aj.cond rfl (fun hb34=>?_) (fun hb34=>?_)
   ·
    replace h:=bL hb34 h
    refine aj.seq ?_
    refine aj.region E.obj rfl ?_
    refine ai.val rfl (ah rfl) rfl ?_
    refine ai.val rfl (ah rfl) rfl ?_
    refine ai.nil ?_
    have hr:=Option.some.inj h
    subst hr
    exact aj.ret ⟨_,rfl,rfl,gI (vs:=[(.d (.str [])),(.d (.bool false))]) (ds:=[(.str []),(.bool false)]) (au.eq (au.eq .nil))⟩
   replace h:=bN hb34 h
   refine aj.skip ?_
   refine aj.region E.obj rfl ?_
   refine ai.val rfl (aa rfl) rfl ?_
   obtain ⟨z35,hzz35,h⟩:=bind_some h
   refine ai.val rfl (ak rfl rfl (zJ hzz35)) rfl ?_
   refine ai.val rfl (aa rfl) rfl ?_
   refine ai.val rfl (ak rfl rfl Bq) rfl ?_
   refine ai.val rfl (il rfl Eg Ei) rfl ?_
   refine ai.val rfl (ah rfl) rfl ?_
   refine ai.val rfl (ah rfl) rfl ?_
   refine ai.nil ?_
   exact ⟨⟨(IntKind.wrap .u8 (Cz .i64 z35 z32)),3⟩,_,_,S11,.refl _ _,.refl _,(ae.r rfl (ae.r rfl (ae.r rfl (ae.r rfl ae.nil)))),H12.sl [0] rfl rfl,h⟩
  replace h:=bN hb27 h
  refine aj.seq ?_
  refine aj.region E.obj rfl ?_
  refine ai.val rfl (aa rfl) rfl ?_
  obtain ⟨z36,hzz36,h⟩:=bind_some h
  refine ai.ret rfl (aA rfl rfl) (o9 E _ _ _ hzz36 _ _ (au.eq .nil)) rfl ?_
  refine ai.val rfl (bu rfl) rfl ?_
  refine ai.nil ?_
  refine aj.cond rfl (fun hb37=>?_) (fun hb37=>?_)
  ·
   replace h:=bL hb37 h
   refine aj.seq ?_
   refine aj.region E.obj rfl ?_
   refine ai.val rfl (ah rfl) rfl ?_
   refine ai.val rfl (ah rfl) rfl ?_
   refine ai.nil ?_
   have hr:=Option.some.inj h
   subst hr
   exact aj.ret ⟨_,rfl,rfl,gI (vs:=[(.d (.str [])),(.d (.bool false))]) (ds:=[(.str []),(.bool false)]) (au.eq (au.eq .nil))⟩
  replace h:=bN hb37 h
  refine aj.skip ?_
  exact ⟨⟨(z17.toNat:Int),1⟩,_,_,S11,.refl _ _,.refl _,(ae.r rfl (ae.r rfl (ae.r rfl (ae.r rfl ae.nil)))),H12.sl [0] rfl rfl,h⟩
 replace h:=bN hb16 h
 refine aj.exit ?_
 refine aj.seq ?_
 refine aj.region E.obj rfl ?_
 refine ai.st E.bld H12 rfl rfl (i:=0) rfl rfl (fun S38 H39=>?_)
 refine ai.val rfl (ah rfl) rfl ?_
 refine ai.val rfl (ah rfl) rfl ?_
 refine ai.nil ?_
 have hr:=Option.some.inj h
 subst hr
 exact aj.ret ⟨_,rfl,rfl,gI (vs:=[(.d (.str x13)),(.d (.bool true))]) (ds:=[(.str x13),(.bool true)]) (au.eq (au.eq .nil))⟩
set_option maxRecDepth 20000 in
set_option maxHeartbeats 4000000 in
theorem oL (n:Nat) (a1:Str) (r:((List Str) × Bool)) (h:gK n a1=some r):aY R cfg.P 46 [(.str a1)] (.tup [.d (.sl ((r.1).map D.str) false),.d (.bool r.2)]):=by
 unfold gK at h
 refine aY.of_wp E.obj.toObjOk (C:=cfg) Tryd.func46 rfl Di rfl ?_
 have H0:Has ax ax []:=Has.pure
 refine aj.seq ?_
 refine aj.region E.obj rfl ?_
 refine ai.val rfl (ah rfl) rfl ?_
 refine ai.val rfl (ah rfl) rfl ?_
 refine ai.nil ?_
 refine aj.seq ?_
 refine aj.seq ?_
 refine aj.region E.obj rfl ?_
 refine ai.val rfl (aa rfl) rfl ?_
 refine ai.val rfl (ak rfl rfl je) rfl ?_
 refine ai.nil ?_
 refine aj.cond rfl (fun hb2=>?_) (fun hb2=>?_)
 ·
  replace h:=bL hb2 h
  refine aj.seq ?_
  refine aj.region E.obj rfl ?_
  refine ai.val rfl (ah rfl) rfl ?_
  refine ai.val rfl (ah rfl) rfl ?_
  refine ai.nil ?_
  have hr:=Option.some.inj h
  subst hr
  exact aj.ret ⟨_,rfl,rfl,gI (vs:=[(.d .bK),(.d (.bool true))]) (ds:=[(.sl (([]).map D.str) false),(.bool true)]) (au.fF rfl (.bK false) (au.eq .nil))⟩
 replace h:=bN hb2 h
 refine aj.skip ?_
 refine aj.seq ?_
 refine aj.region E.obj rfl ?_
 refine ai.val rfl (ah rfl) rfl ?_
 refine ai.nil ?_
 refine aj.seq ?_
 refine aj.seq ?_
 refine aj.region E.obj rfl ?_
 refine ai.val rfl (aa rfl) rfl ?_
 obtain ⟨z3,hzz3,h⟩:=bind_some h
 refine ai.ret rfl (aA rfl rfl) (E.strings_Split_ok _ _ _ _ hzz3 _ _ (au.eq (au.eq .nil))) rfl ?_
 refine ai.val rfl (aR rfl mr) rfl ?_
 refine ai.val rfl (aa rfl) rfl ?_
 refine ai.nil ?_
 refine aj.block ?_
 have H26:=H0.vz
 refine lZ.start (B:=ax) (α:=(List Str) × AV × Int) (fun k a=>cB n z3 k a.1 a.2.2=some r) (fun a=>[(4,a.2.1),(12,(.d (.sl ((z3).map D.str) false))),(13,(.d (.int .i64 ((z3).length:Int)))),(14,(.d (.int .i64 a.2.2)))]) (fun a=>[.grow a.2.1 ((a.1).map D.str)]) ?_ ?_ n ⟨⟨[],(.d .bK),0⟩,_,_,ax,.refl _ _,.refl _,(ae.r rfl (ae.r rfl (ae.r rfl (ae.r rfl ae.nil)))),H26.sl [0] rfl rfl,h⟩
 ·
  intro a h; simp [cB] at h
 intro k16 a S11 H12 h
 obtain ⟨x13,v14,x15⟩:=a
 replace h:cB n z3 (k16 + 1) x13 x15=some r:=h
 replace H12:Has ax S11 [.grow v14 ((x13).map D.str)]:=H12
 unfold cB at h
 refine aj.seq ?_
 refine aj.region E.obj rfl ?_
 refine ai.val rfl (ak rfl rfl bV) rfl ?_
 refine ai.nil ?_
 refine aj.seq ?_
 refine aj.cond rfl (fun hb17=>?_) (fun hb17=>?_)
 ·
  replace h:=bL hb17 h
  refine aj.skip ?_
  refine aj.seq ?_
  refine aj.block ?_
  refine aj.seq ?_
  refine aj.region E.obj rfl ?_
  obtain ⟨z18,hzz18,h⟩:=bind_some h
  refine ai.val rfl (bF rfl rfl (bU (enc:=D.str) hzz18 fV xO (((fun _=>rfl) _).trans jy.symm))) rfl ?_
  refine ai.val rfl (aT rfl (cz kK rfl)) rfl ?_
  refine ai.val rfl (ah rfl) rfl ?_
  refine ai.nil ?_
  refine aj.seq ?_
  refine aj.region E.obj rfl ?_
  refine ai.val rfl (aa rfl) rfl ?_
  obtain ⟨z19,hzz19,h⟩:=bind_some h
  refine ai.ret rfl (aA rfl rfl) (uC E _ _ _ hzz19 _ _ (au.eq .nil)) rfl ?_
  refine ai.val rfl (aa rfl) rfl ?_
  refine ai.val rfl (aC rfl rfl) rfl ?_
  refine ai.val rfl (aC rfl rfl) rfl ?_
  refine ai.val rfl (ah rfl) rfl ?_
  refine ai.val rfl (ah rfl) rfl ?_
  refine ai.nil ?_
  refine aj.seq ?_
  refine aj.seq ?_
  refine aj.region E.obj rfl ?_
  refine ai.val rfl (aa rfl) rfl ?_
  refine ai.val rfl (bu rfl) rfl ?_
  refine ai.val rfl (aa rfl) rfl ?_
  refine ai.bP 4 29 (.d (.bool ((!z19.2) || (((x13).length:Int) == 8)))) ?_ ?_
  ·
   rcases Bool.eq_false_or_eq_true ((!z19.2)) with hB20 | hB20
   ·
    refine ai.bool hB20 ?_
    refine ai.no rfl rfl ?_
    refine ai.no rfl rfl ?_
    refine ai.no rfl rfl ?_
    refine ai.val rfl (ay (b:=true) rfl rfl) rfl ?_
    exact ai.nil ⟨_,rfl,(ae.put (ae.push rfl (ae.push rfl (ae.push rfl (ae.put (.refl _) (Less.eq (by rw [hB20])))))) (Less.eq (by rw [hB20]; rw [Bool.true_or])))⟩
   refine ai.bool hB20 ?_
   refine ai.val rfl (aa rfl) rfl ?_
   refine ai.val rfl (uM H12 (i:=0) rfl rfl mr) rfl ?_
   refine ai.val rfl (ak rfl rfl dH) rfl ?_
   refine ai.val rfl (ay (b:=false) rfl rfl) rfl ?_
   exact ai.nil ⟨_,rfl,(ae.put (ae.push rfl (ae.push rfl (ae.push rfl (ae.put (.refl _) (Less.eq (by rw [hB20])))))) (Less.eq (by rw [hB20]; rw [Bool.false_or])))⟩
  refine ai.nil ?_
  refine aj.cond rfl (fun hb21=>?_) (fun hb21=>?_)
  ·
   replace h:=bL hb21 h
   refine aj.seq ?_
   refine aj.region E.obj rfl ?_
   refine ai.val rfl (ah rfl) rfl ?_
   refine ai.val rfl (ah rfl) rfl ?_
   refine ai.nil ?_
   have hr:=Option.some.inj h
   subst hr
   exact aj.ret ⟨_,rfl,rfl,gI (vs:=[(.d .bK),(.d (.bool false))]) (ds:=[(.sl (([]).map D.str) false),(.bool false)]) (au.fF rfl (.bK false) (au.eq .nil))⟩
  replace h:=bN hb21 h
  refine aj.skip ?_
  refine aj.region E.obj rfl ?_
  refine ai.val rfl (aa rfl) rfl ?_
  refine ai.val rfl (aa rfl) rfl ?_
  refine ai.val rfl (aL (vs:=[(.d (.str z19.1))]) (ds:=[(.str z19.1)]) jY fV kK za jy rfl (by decide) (.cons rfl rfl .nil) rfl (by intro d hd; simp only [List.mem_cons,List.not_mem_nil,or_false] at hd; rcases hd with rfl <;> rfl) rfl) rfl ?_
  obtain ⟨z22,hzz22,h⟩:=bind_some h
  refine ai.append (xs:=(x13).map D.str) (ys:=([z19.1]).map D.str) (zs:=(z22).map D.str) H12 rfl rfl rfl (i:=0) rfl rfl jY uz fV (cu hzz22) AZ rfl (aN (enc:=D.str) (fun _=>jy.symm) _) (aN (enc:=D.str) (fun _=>jy.symm) _) A9 rfl (eZ hzz22) (fun v23 S24 H25=>?_)
  refine ai.val rfl (ah rfl) rfl ?_
  refine ai.nil ?_
  refine aj.region E.obj rfl ?_
  refine ai.val rfl (ak rfl rfl bY) rfl ?_
  refine ai.val rfl (aa rfl) rfl ?_
  refine ai.nil ?_
  exact ⟨⟨z22,v23,(IntKind.wrap .i64 (x15 + 1))⟩,_,_,S24,.refl _ _,.refl _,(ae.r rfl (ae.r rfl (ae.r rfl (ae.r rfl ae.nil)))),H25.sl [0] rfl rfl,h⟩
 replace h:=bN hb17 h
 refine aj.exit ?_
 refine aj.seq ?_
 refine aj.region E.obj rfl ?_
 refine ai.val rfl (aa rfl) rfl ?_
 refine ai.val rfl (ah rfl) rfl ?_
 refine ai.val rfl (ah rfl) rfl ?_
 refine ai.nil ?_
 have hr:=Option.some.inj h
 subst hr
 exact aj.ret ⟨_,rfl,rfl,gI (vs:=[v14,(.d (.bool true))]) (ds:=[(.sl ((x13).map D.str) false),(.bool true)]) (au.grow H12 (i:=0) rfl (au.eq .nil))⟩
set_option maxRecDepth 20000 in
set_option maxHeartbeats 4000000 in
theorem qR (n:Nat) (a1:(List Seg)) (a2:(List aG)) (r:((List Str) × Bool)) (h:iY n a1 a2=some r):aY R cfg.P 25 [(.sl ((a1).map aM) false),(.sl ((a2).map av) false)] (.tup [.d (.sl ((r.1).map D.str) false),.d (.bool r.2)]):=by
 unfold iY at h
 refine aY.of_wp E.obj.toObjOk (C:=cfg) Tryd.func25 rfl DC rfl ?_
 have H0:Has ax ax []:=Has.pure
 refine aj.seq ?_
 refine aj.region E.obj rfl ?_
 refine ai.val rfl (ah rfl) rfl ?_
 refine ai.val rfl (ah rfl) rfl ?_
 refine ai.nil ?_
 refine aj.seq ?_
 refine aj.region E.obj rfl ?_
 refine ai.val rfl (ah rfl) rfl ?_
 refine ai.nil ?_
 refine aj.seq ?_
 refine aj.seq ?_
 refine aj.region E.obj rfl ?_
 refine ai.val rfl (aa rfl) rfl ?_
 refine ai.val rfl (aR rfl wP) rfl ?_
 refine ai.val rfl (aa rfl) rfl ?_
 refine ai.nil ?_
 refine aj.block ?_
 have H53:=H0.vz
 refine lZ.start (B:=ax) (α:=(List Str) × AV × Int) (fun k a=>aV n a1 a2 k a.1 a.2.2=some r) (fun a=>[(1,(.d (.sl ((a2).map av) false))),(6,a.2.1),(13,(.d (.sl ((a1).map aM) false))),(14,(.d (.int .i64 ((a1).length:Int)))),(15,(.d (.int .i64 a.2.2)))]) (fun a=>[.grow a.2.1 ((a.1).map D.str)]) ?_ ?_ n ⟨⟨[],(.d .bK),0⟩,_,_,ax,.refl _ _,.refl _,(ae.r rfl (ae.r rfl (ae.r rfl (ae.r rfl (ae.r rfl ae.nil))))),H53.sl [0] rfl rfl,h⟩
 ·
  intro a h; simp [aV] at h
 intro k15 a S10 H11 h
 obtain ⟨x12,v13,x14⟩:=a
 replace h:aV n a1 a2 (k15 + 1) x12 x14=some r:=h
 replace H11:Has ax S10 [.grow v13 ((x12).map D.str)]:=H11
 unfold aV at h
 refine aj.seq ?_
 refine aj.region E.obj rfl ?_
 refine ai.val rfl (ak rfl rfl bV) rfl ?_
 refine ai.nil ?_
 refine aj.seq ?_
 refine aj.cond rfl (fun hb16=>?_) (fun hb16=>?_)
 ·
  replace h:=bL hb16 h
  refine aj.skip ?_
  refine aj.join (B:=ax) (α:=(List Str) × AV) (fun a=>dm x14 (aV n a1 a2 k15) a.1=some r) (fun a=>[(1,(.d (.sl ((a2).map av) false))),(6,a.2),(13,(.d (.sl ((a1).map aM) false))),(14,(.d (.int .i64 ((a1).length:Int)))),(15,(.d (.int .i64 x14)))]) (fun a=>[.grow a.2 ((a.1).map D.str)]) ?_ ?_
  ·
   intro a S17 H18 h
   obtain ⟨x19,v20⟩:=a
   replace h:dm x14 (aV n a1 a2 k15) x19=some r:=h
   replace H18:Has ax S17 [.grow v20 ((x19).map D.str)]:=H18
   unfold dm at h
   refine aj.region E.obj rfl ?_
   refine ai.val rfl (ak rfl rfl bY) rfl ?_
   refine ai.val rfl (aa rfl) rfl ?_
   refine ai.nil ?_
   exact ⟨⟨x19,v20,(IntKind.wrap .i64 (x14 + 1))⟩,_,_,S17,.refl _ _,.refl _,(ae.r rfl (ae.r rfl (ae.r rfl (ae.r rfl (ae.r rfl ae.nil))))),H18.sl [0] rfl rfl,h⟩
  refine aj.block ?_
  refine aj.seq ?_
  refine aj.region E.obj rfl ?_
  obtain ⟨z22,hzz22,h⟩:=bind_some h
  refine ai.val rfl (bF rfl rfl (bU (enc:=aM) hzz22 qM pE ((Seg.len _).trans gN.symm))) rfl ?_
  refine ai.val rfl (aT rfl (Seg.kS pO gN)) rfl ?_
  refine ai.alloc H11 rfl y9 nM rfl rfl (fun b23 S24 H25=>?_)
  refine ai.store H25 (i:=0) rfl rfl rfl rfl (Seg.dX _) rfl gN rfl pE rfl rfl rfl (fun S26 H27=>?_)
  refine ai.nil ?_
  refine aj.seq ?_
  refine aj.region E.obj rfl ?_
  refine ai.val rfl (aa rfl) rfl ?_
  refine ai.val rfl (az rfl kP xN rfl) rfl ?_
  refine ai.val rfl (aK H27 (i:=0) rfl rfl (aS kK rfl)) rfl ?_
  obtain ⟨z28,hzz28,h⟩:=bind_some h
  refine ai.ret rfl (aA rfl rfl) (lD E _ _ _ _ hzz28 _ _ (au.eq (au.eq .nil))) rfl ?_
  refine ai.val rfl (aa rfl) rfl ?_
  refine ai.val rfl (aC rfl rfl) rfl ?_
  refine ai.val rfl (aC rfl rfl) rfl ?_
  refine ai.val rfl (ah rfl) rfl ?_
  refine ai.val rfl (ah rfl) rfl ?_
  refine ai.nil ?_
  refine aj.seq ?_
  refine aj.region E.obj rfl ?_
  refine ai.val rfl (az rfl iT yK rfl) rfl ?_
  refine ai.val rfl (aK H27 (i:=0) rfl rfl (aS uA rfl)) rfl ?_
  refine ai.nil ?_
  refine aj.block ?_
  refine aj.seq ?_
  refine aj.region E.obj rfl ?_
  refine ai.val rfl (ak rfl rfl dH) rfl ?_
  refine ai.val rfl (ah rfl) rfl ?_
  refine ai.nil ?_
  refine aj.cond rfl (fun hb29=>?_) (fun hb29=>?_)
  ·
   replace h:=bL hb29 h
   refine aj.region E.obj rfl ?_
   refine ai.val rfl (aa rfl) rfl ?_
   refine ai.val rfl (az rfl kP xN rfl) rfl ?_
   refine ai.val rfl (aK H27 (i:=0) rfl rfl (aS kK rfl)) rfl ?_
   refine ai.val rfl (aL (vs:=[(.d (.str z22.Text))]) (ds:=[(.str z22.Text)]) jY fV kK za jy rfl (by decide) (.cons rfl rfl .nil) rfl (by intro d hd; simp only [List.mem_cons,List.not_mem_nil,or_false] at hd; rcases hd with rfl <;> rfl) rfl) rfl ?_
   obtain ⟨z30,hzz30,h⟩:=bind_some h
   refine ai.append (xs:=(x12).map D.str) (ys:=([z22.Text]).map D.str) (zs:=(z30).map D.str) H27 rfl rfl rfl (i:=1) rfl rfl jY uz fV (cu hzz30) AZ rfl (aN (enc:=D.str) (fun _=>jy.symm) _) (aN (enc:=D.str) (fun _=>jy.symm) _) A9 rfl (eZ hzz30) (fun v31 S32 H33=>?_)
   refine ai.val rfl (ah rfl) rfl ?_
   refine ai.nil ?_
   exact ⟨⟨z30,v31⟩,_,_,S32,.refl _ _,.refl _,(ae.r rfl (ae.r rfl (ae.r rfl (ae.r rfl (ae.r rfl ae.nil))))),H33.sl [1] rfl rfl,h⟩
  replace h:=bN hb29 h
  refine aj.seq ?_
  refine aj.region E.obj rfl ?_
  refine ai.val rfl (ak rfl rfl dH) rfl ?_
  refine ai.val rfl (ah rfl) rfl ?_
  refine ai.nil ?_
  refine aj.cond rfl (fun hb34=>?_) (fun hb34=>?_)
  ·
   replace h:=bL hb34 h
   refine aj.seq ?_
   refine aj.seq ?_
   refine aj.region E.obj rfl ?_
   refine ai.val rfl (aa rfl) rfl ?_
   refine ai.val rfl (bu rfl) rfl ?_
   refine ai.nil ?_
   refine aj.cond rfl (fun hb35=>?_) (fun hb35=>?_)
   ·
    replace h:=bL hb35 h
    refine aj.seq ?_
    refine aj.region E.obj rfl ?_
    refine ai.val rfl (ah rfl) rfl ?_
    refine ai.val rfl (ah rfl) rfl ?_
    refine ai.nil ?_
    have hr:=Option.some.inj h
    subst hr
    exact aj.ret ⟨_,rfl,rfl,gI (vs:=[(.d .bK),(.d (.bool false))]) (ds:=[(.sl (([]).map D.str) false),(.bool false)]) (au.fF rfl (.bK false) (au.eq .nil))⟩
   replace h:=bN hb35 h
   refine aj.skip ?_
   refine aj.region E.obj rfl ?_
   refine ai.val rfl (aa rfl) rfl ?_
   refine ai.val rfl (aa rfl) rfl ?_
   refine ai.val rfl (aL (vs:=[(.d (.str z28.1))]) (ds:=[(.str z28.1)]) jY fV kK za jy rfl (by decide) (.cons rfl rfl .nil) rfl (by intro d hd; simp only [List.mem_cons,List.not_mem_nil,or_false] at hd; rcases hd with rfl <;> rfl) rfl) rfl ?_
   obtain ⟨z36,hzz36,h⟩:=bind_some h
   refine ai.append (xs:=(x12).map D.str) (ys:=([z28.1]).map D.str) (zs:=(z36).map D.str) H27 rfl rfl rfl (i:=1) rfl rfl jY uz fV (cu hzz36) AZ rfl (aN (enc:=D.str) (fun _=>jy.symm) _) (aN (enc:=D.str) (fun _=>jy.symm) _) A9 rfl (eZ hzz36) (fun v37 S38 H39=>?_)
   refine ai.val rfl (ah rfl) rfl ?_
   refine ai.nil ?_
   exact ⟨⟨z36,v37⟩,_,_,S38,.refl _ _,.refl _,(ae.r rfl (ae.r rfl (ae.r rfl (ae.r rfl (ae.r rfl ae.nil))))),H39.sl [1] rfl rfl,h⟩
  replace h:=bN hb34 h
  refine aj.seq ?_
  refine aj.region E.obj rfl ?_
  refine ai.val rfl (ak rfl rfl dH) rfl ?_
  refine ai.val rfl (ah rfl) rfl ?_
  refine ai.nil ?_
  refine aj.cond rfl (fun hb40=>?_) (fun hb40=>?_)
  ·
   replace h:=bL hb40 h
   refine aj.seq ?_
   refine aj.region E.obj rfl ?_
   refine ai.val rfl (aa rfl) rfl ?_
   refine ai.nil ?_
   refine aj.cond rfl (fun hb41=>?_) (fun hb41=>?_)
   ·
    replace h:=bL hb41 h
    refine aj.region E.obj rfl ?_
    refine ai.val rfl (aa rfl) rfl ?_
    refine ai.val rfl (aa rfl) rfl ?_
    refine ai.val rfl (aL (vs:=[(.d (.str z28.1))]) (ds:=[(.str z28.1)]) jY fV kK za jy rfl (by decide) (.cons rfl rfl .nil) rfl (by intro d hd; simp only [List.mem_cons,List.not_mem_nil,or_false] at hd; rcases hd with rfl <;> rfl) rfl) rfl ?_
    obtain ⟨z42,hzz42,h⟩:=bind_some h
    refine ai.append (xs:=(x12).map D.str) (ys:=([z28.1]).map D.str) (zs:=(z42).map D.str) H27 rfl rfl rfl (i:=1) rfl rfl jY uz fV (cu hzz42) AZ rfl (aN (enc:=D.str) (fun _=>jy.symm) _) (aN (enc:=D.str) (fun _=>jy.symm) _) A9 rfl (eZ hzz42) (fun v43 S44 H45=>?_)
    refine ai.val rfl (ah rfl) rfl ?_
    refine ai.nil ?_
    exact ⟨⟨z42,v43⟩,_,_,S44,.refl _ _,.refl _,(ae.r rfl (ae.r rfl (ae.r rfl (ae.r rfl (ae.r rfl ae.nil))))),H45.sl [1] rfl rfl,h⟩
   replace h:=bN hb41 h
   refine aj.skip ?_
   exact ⟨⟨x12,v13⟩,_,_,S26,.refl _ _,.refl _,(ae.r rfl (ae.r rfl (ae.r rfl (ae.r rfl (ae.r rfl ae.nil))))),H27.sl [1] rfl rfl,h⟩
  replace h:=bN hb40 h
  refine aj.seq ?_
  refine aj.region E.obj rfl ?_
  refine ai.val rfl (aa rfl) rfl ?_
  obtain ⟨z46,hzz46,h⟩:=bind_some h
  refine ai.ret rfl (aA rfl rfl) (oL E _ _ _ hzz46 _ _ (au.eq .nil)) rfl ?_
  refine ai.val rfl (aa rfl) rfl ?_
  refine ai.val rfl (aC rfl rfl) rfl ?_
  refine ai.val rfl (aC rfl rfl) rfl ?_
  refine ai.val rfl (ah rfl) rfl ?_
  refine ai.val rfl (ah rfl) rfl ?_
  refine ai.nil ?_
  refine aj.seq ?_
  refine aj.seq ?_
  refine aj.region E.obj rfl ?_
  refine ai.val rfl (aa rfl) rfl ?_
  refine ai.val rfl (bu rfl) rfl ?_
  refine ai.val rfl (aa rfl) rfl ?_
  refine ai.bP 3 38 (.d (.bool ((!z28.2) || (!z46.2)))) ?_ ?_
  ·
   rcases Bool.eq_false_or_eq_true ((!z28.2)) with hB47 | hB47
   ·
    refine ai.bool hB47 ?_
    refine ai.no rfl rfl ?_
    refine ai.no rfl rfl ?_
    refine ai.val rfl (ay (b:=true) rfl rfl) rfl ?_
    exact ai.nil ⟨_,rfl,(ae.put (ae.push rfl (ae.push rfl (ae.put (.refl _) (Less.eq (by rw [hB47]))))) (Less.eq (by rw [hB47]; rw [Bool.true_or])))⟩
   refine ai.bool hB47 ?_
   refine ai.val rfl (aa rfl) rfl ?_
   refine ai.val rfl (bu rfl) rfl ?_
   refine ai.val rfl (ay (b:=false) rfl rfl) rfl ?_
   exact ai.nil ⟨_,rfl,(ae.put (ae.push rfl (ae.push rfl (ae.put (.refl _) (Less.eq (by rw [hB47]))))) (Less.eq (by rw [hB47]; rw [Bool.false_or])))⟩
  refine ai.nil ?_
  refine aj.cond rfl (fun hb48=>?_) (fun hb48=>?_)
  ·
   replace h:=bL hb48 h
   refine aj.seq ?_
   refine aj.region E.obj rfl ?_
   refine ai.val rfl (ah rfl) rfl ?_
   refine ai.val rfl (ah rfl) rfl ?_
   refine ai.nil ?_
   have hr:=Option.some.inj h
   subst hr
   exact aj.ret ⟨_,rfl,rfl,gI (vs:=[(.d .bK),(.d (.bool false))]) (ds:=[(.sl (([]).map D.str) false),(.bool false)]) (au.fF rfl (.bK false) (au.eq .nil))⟩
  replace h:=bN hb48 h
  refine aj.skip ?_
  refine aj.region E.obj rfl ?_
  refine ai.val rfl (aa rfl) rfl ?_
  refine ai.val rfl (aa rfl) rfl ?_
  obtain ⟨z49,hzz49,h⟩:=bind_some h
  refine ai.append (xs:=(x12).map D.str) (ys:=(z46.1).map D.str) (zs:=(z49).map D.str) H27 rfl rfl rfl (i:=1) rfl rfl jY uz fV (cu hzz49) AZ rfl (aN (enc:=D.str) (fun _=>jy.symm) _) (aN (enc:=D.str) (fun _=>jy.symm) _) A9 rfl (eZ hzz49) (fun v50 S51 H52=>?_)
  refine ai.val rfl (ah rfl) rfl ?_
  refine ai.nil ?_
  exact ⟨⟨z49,v50⟩,_,_,S51,.refl _ _,.refl _,(ae.r rfl (ae.r rfl (ae.r rfl (ae.r rfl (ae.r rfl ae.nil))))),H52.sl [1] rfl rfl,h⟩
 replace h:=bN hb16 h
 refine aj.exit ?_
 refine aj.seq ?_
 refine aj.region E.obj rfl ?_
 refine ai.val rfl (aa rfl) rfl ?_
 refine ai.val rfl (ah rfl) rfl ?_
 refine ai.val rfl (ah rfl) rfl ?_
 refine ai.nil ?_
 have hr:=Option.some.inj h
 subst hr
 exact aj.ret ⟨_,rfl,rfl,gI (vs:=[v13,(.d (.bool true))]) (ds:=[(.sl ((x12).map D.str) false),(.bool true)]) (au.grow H11 (i:=0) rfl (au.eq .nil))⟩
set_option maxRecDepth 20000 in
set_option maxHeartbeats 4000000 in
theorem mI (n:Nat) (a1:Str) (a2:Int) (r:Bool) (h:jQ n a1 a2=some r):aY R cfg.P 47 [(.str a1),(.int .i64 a2)] (.d (.bool r)):=by
 unfold jQ at h
 refine aY.of_wp E.obj.toObjOk (C:=cfg) Tryd.func47 rfl CZ rfl ?_
 have H0:Has ax ax []:=Has.pure
 refine aj.seq ?_
 refine aj.region E.obj rfl ?_
 refine ai.val rfl (ah rfl) rfl ?_
 refine ai.nil ?_
 refine aj.seq ?_
 refine aj.region E.obj rfl ?_
 refine ai.val rfl (aa rfl) rfl ?_
 refine ai.val rfl (dR rfl (dN pR) rfl) rfl ?_
 refine ai.val rfl (aa rfl) rfl ?_
 refine ai.val rfl (ak rfl rfl gu) rfl ?_
 refine ai.val rfl (aa rfl) rfl ?_
 refine ai.bP 4 13 (.d (.bool ((decide (a2 ≤ ((a1).length:Int))) && (decide (((a1).length:Int) ≤ 64))))) ?_ ?_
 ·
  rcases Bool.eq_false_or_eq_true ((decide (a2 ≤ ((a1).length:Int)))) with hB3 | hB3
  ·
   refine ai.bool hB3 ?_
   refine ai.val rfl (aa rfl) rfl ?_
   refine ai.val rfl (dR rfl (dN pR) rfl) rfl ?_
   refine ai.val rfl (ak rfl rfl jm) rfl ?_
   refine ai.val rfl (ay (b:=true) rfl rfl) rfl ?_
   exact ai.nil ⟨_,rfl,(ae.put (ae.push rfl (ae.push rfl (ae.push rfl (ae.put (.refl _) (Less.eq (by rw [hB3])))))) (Less.eq (by rw [hB3]; rw [Bool.true_and])))⟩
  refine ai.bool hB3 ?_
  refine ai.no rfl rfl ?_
  refine ai.no rfl rfl ?_
  refine ai.no rfl rfl ?_
  refine ai.val rfl (ay (b:=false) rfl rfl) rfl ?_
  exact ai.nil ⟨_,rfl,(ae.put (ae.push rfl (ae.push rfl (ae.push rfl (ae.put (.refl _) (Less.eq (by rw [hB3])))))) (Less.eq (by rw [hB3]; rw [Bool.false_and])))⟩
 refine ai.val rfl (ah rfl) rfl ?_
 refine ai.nil ?_
 have hr:=Option.some.inj h
 subst hr
 exact aj.ret ⟨_,rfl,rfl,eF (au.eq .nil)⟩
set_option maxRecDepth 20000 in
set_option maxHeartbeats 4000000 in
theorem wo (n:Nat) (a1:lh) (r:Bool) (h:ll n a1=some r):aY R cfg.P 26 [(kH a1)] (.d (.bool r)):=by
 unfold ll at h
 refine aY.of_wp E.obj.toObjOk (C:=cfg) Tryd.func26 rfl Dn rfl ?_
 have H0:Has ax ax []:=Has.pure
 refine aj.seq ?_
 refine aj.region E.obj rfl ?_
 refine ai.box H0 rfl rfl rfl (lh.dX _) rfl (fun b2 S3 H4=>?_)
 refine ai.val rfl (ah rfl) rfl ?_
 refine ai.nil ?_
 refine aj.seq ?_
 refine aj.seq ?_
 refine aj.region E.obj rfl ?_
 refine ai.val rfl (az rfl rV Bb rfl) rfl ?_
 refine ai.val rfl (aK H4 (i:=0) rfl rfl (aS Ba rfl)) rfl ?_
 refine ai.val rfl (aR rfl mr) rfl ?_
 refine ai.val rfl (ak rfl rfl lq) rfl ?_
 refine ai.val rfl (aa rfl) rfl ?_
 refine ai.bP 5 16 (.d (.bool ((decide (8 < ((a1.Path).length:Int))) || (decide (8 < ((a1.Query).length:Int)))))) ?_ ?_
 ·
  rcases Bool.eq_false_or_eq_true ((decide (8 < ((a1.Path).length:Int)))) with hB5 | hB5
  ·
   refine ai.bool hB5 ?_
   refine ai.no rfl rfl ?_
   refine ai.no rfl rfl ?_
   refine ai.no rfl rfl ?_
   refine ai.no rfl rfl ?_
   refine ai.val rfl (ay (b:=true) rfl rfl) rfl ?_
   exact ai.nil ⟨_,rfl,(ae.put (ae.push rfl (ae.push rfl (ae.push rfl (ae.push rfl (ae.put (.refl _) (Less.eq (by rw [hB5]))))))) (Less.eq (by rw [hB5]; rw [Bool.true_or])))⟩
  refine ai.bool hB5 ?_
  refine ai.val rfl (az rfl rM Ar rfl) rfl ?_
  refine ai.val rfl (aK H4 (i:=0) rfl rfl (aS Bh rfl)) rfl ?_
  refine ai.val rfl (aR rfl tY) rfl ?_
  refine ai.val rfl (ak rfl rfl lq) rfl ?_
  refine ai.val rfl (ay (b:=false) rfl rfl) rfl ?_
  exact ai.nil ⟨_,rfl,(ae.put (ae.push rfl (ae.push rfl (ae.push rfl (ae.push rfl (ae.put (.refl _) (Less.eq (by rw [hB5]))))))) (Less.eq (by rw [hB5]; rw [Bool.false_or])))⟩
 refine ai.nil ?_
 refine aj.cond rfl (fun hb6=>?_) (fun hb6=>?_)
 ·
  replace h:=bL hb6 h
  refine aj.seq ?_
  refine aj.region E.obj rfl ?_
  refine ai.val rfl (ah rfl) rfl ?_
  refine ai.nil ?_
  have hr:=Option.some.inj h
  subst hr
  exact aj.ret ⟨_,rfl,rfl,eF (au.eq .nil)⟩
 replace h:=bN hb6 h
 refine aj.skip ?_
 refine aj.seq ?_
 refine aj.seq ?_
 refine aj.region E.obj rfl ?_
 refine ai.val rfl (az rfl rV Bb rfl) rfl ?_
 refine ai.val rfl (aK H4 (i:=0) rfl rfl (aS Ba rfl)) rfl ?_
 refine ai.val rfl (aR rfl mr) rfl ?_
 refine ai.val rfl (aa rfl) rfl ?_
 refine ai.nil ?_
 refine aj.block ?_
 refine lZ.start (B:=ax) (α:=Int) (fun k a=>dP n a1 k a=some r) (fun a=>[(1,(.ptr b2 0 0)),(18,(.d (.sl ((a1.Path).map D.str) false))),(19,(.d (.int .i64 ((a1.Path).length:Int)))),(20,(.d (.int .i64 a)))]) (fun a=>[.box b2 [(.d (.sl ((a1.Path).map D.str) false)),(.d (.sl ((a1.Query).map av) false))]]) ?_ ?_ n ⟨0,_,_,S3,.refl _ _,.refl _,(ae.r rfl (ae.r rfl (ae.r rfl (ae.r rfl ae.nil)))),H4.sl [0] rfl rfl,h⟩
 ·
  intro a h; simp [dP] at h
 intro k15 x14 S12 H13 h
 replace h:dP n a1 (k15 + 1) x14=some r:=h
 replace H13:Has ax S12 [.box b2 [(.d (.sl ((a1.Path).map D.str) false)),(.d (.sl ((a1.Query).map av) false))]]:=H13
 unfold dP at h
 refine aj.seq ?_
 refine aj.region E.obj rfl ?_
 refine ai.val rfl (ak rfl rfl bV) rfl ?_
 refine ai.nil ?_
 refine aj.seq ?_
 refine aj.cond rfl (fun hb16=>?_) (fun hb16=>?_)
 ·
  replace h:=bL hb16 h
  refine aj.skip ?_
  refine aj.seq ?_
  refine aj.block ?_
  refine aj.seq ?_
  refine aj.region E.obj rfl ?_
  obtain ⟨z17,hzz17,h⟩:=bind_some h
  refine ai.val rfl (bF rfl rfl (bU (enc:=D.str) hzz17 fV xO (((fun _=>rfl) _).trans jy.symm))) rfl ?_
  refine ai.val rfl (aT rfl (cz kK rfl)) rfl ?_
  refine ai.val rfl (ah rfl) rfl ?_
  refine ai.nil ?_
  refine aj.seq ?_
  refine aj.region E.obj rfl ?_
  refine ai.val rfl (aa rfl) rfl ?_
  obtain ⟨z18,hzz18,h⟩:=bind_some h
  refine ai.ret rfl (aA rfl rfl) (mI E _ _ _ _ hzz18 _ _ (au.eq (au.eq .nil))) rfl ?_
  refine ai.val rfl (bu rfl) rfl ?_
  refine ai.nil ?_
  refine aj.cond rfl (fun hb19=>?_) (fun hb19=>?_)
  ·
   replace h:=bL hb19 h
   refine aj.seq ?_
   refine aj.region E.obj rfl ?_
   refine ai.val rfl (ah rfl) rfl ?_
   refine ai.nil ?_
   have hr:=Option.some.inj h
   subst hr
   exact aj.ret ⟨_,rfl,rfl,eF (au.eq .nil)⟩
  replace h:=bN hb19 h
  refine aj.skip ?_
  refine aj.region E.obj rfl ?_
  refine ai.val rfl (ak rfl rfl bY) rfl ?_
  refine ai.val rfl (aa rfl) rfl ?_
  refine ai.nil ?_
  exact ⟨(IntKind.wrap .i64 (x14 + 1)),_,_,S12,.refl _ _,.refl _,(ae.r rfl (ae.r rfl (ae.r rfl (ae.r rfl ae.nil)))),H13.sl [0] rfl rfl,h⟩
 replace h:=bN hb16 h
 refine aj.exit ?_
 refine aj.seq ?_
 refine aj.seq ?_
 refine aj.region E.obj rfl ?_
 refine ai.val rfl (az rfl rM Ar rfl) rfl ?_
 refine ai.val rfl (aK H13 (i:=0) rfl rfl (aS Bh rfl)) rfl ?_
 refine ai.val rfl (aR rfl tY) rfl ?_
 refine ai.val rfl (aa rfl) rfl ?_
 refine ai.nil ?_
 refine aj.block ?_
 refine lZ.start (B:=ax) (α:=Int) (fun k a=>fD n a1 k a=some r) (fun a=>[(29,(.d (.sl ((a1.Query).map av) false))),(30,(.d (.int .i64 ((a1.Query).length:Int)))),(31,(.d (.int .i64 a)))]) (fun a=>[]) ?_ ?_ n ⟨0,_,_,S12,.refl _ _,.refl _,(ae.r rfl (ae.r rfl (ae.r rfl ae.nil))),H13.sl [] rfl rfl,h⟩
 ·
  intro a h; simp [fD] at h
 intro k28 x27 S25 H26 h
 replace h:fD n a1 (k28 + 1) x27=some r:=h
 replace H26:Has ax S25 []:=H26
 unfold fD at h
 refine aj.seq ?_
 refine aj.region E.obj rfl ?_
 refine ai.val rfl (ak rfl rfl bV) rfl ?_
 refine ai.nil ?_
 refine aj.seq ?_
 refine aj.cond rfl (fun hb29=>?_) (fun hb29=>?_)
 ·
  replace h:=bL hb29 h
  refine aj.skip ?_
  refine aj.seq ?_
  refine aj.block ?_
  refine aj.seq ?_
  refine aj.region E.obj rfl ?_
  obtain ⟨z30,hzz30,h⟩:=bind_some h
  refine ai.val rfl (bF rfl rfl (bU (enc:=av) hzz30 iB uB ((aG.len _).trans eO.symm))) rfl ?_
  refine ai.val rfl (aT rfl (aG.kS lT eO)) rfl ?_
  refine ai.alloc H26 rfl BU j4 rfl rfl (fun b31 S32 H33=>?_)
  refine ai.store H33 (i:=0) rfl rfl rfl rfl (aG.dX _) rfl eO rfl uB rfl rfl rfl (fun S34 H35=>?_)
  refine ai.nil ?_
  refine aj.seq ?_
  refine aj.region E.obj rfl ?_
  refine ai.val rfl (az rfl yC xN rfl) rfl ?_
  refine ai.val rfl (aK H35 (i:=0) rfl rfl (aS kK rfl)) rfl ?_
  obtain ⟨z36,hzz36,h⟩:=bind_some h
  refine ai.ret rfl (aA rfl rfl) (mI E _ _ _ _ hzz36 _ _ (au.eq (au.eq .nil))) rfl ?_
  refine ai.val rfl (bu rfl) rfl ?_
  refine ai.val rfl (aa rfl) rfl ?_
  obtain ⟨z38,hzz38,h⟩:=bind_some h
  refine ai.bP 5 44 (.d (.bool z38)) ?_ ?_
  ·
   rcases Bool.eq_false_or_eq_true ((!z36)) with hB37 | hB37
   ·
    refine ai.bool hB37 ?_
    refine ai.no rfl rfl ?_
    refine ai.no rfl rfl ?_
    refine ai.no rfl rfl ?_
    refine ai.no rfl rfl ?_
    refine ai.val rfl (ay (b:=true) rfl rfl) rfl ?_
    replace hzz38:=bL hB37 hzz38
    cases hzz38
    exact ai.nil ⟨_,rfl,(ae.put (ae.push rfl (ae.push rfl (ae.push rfl (ae.push rfl (ae.put (.refl _) (Less.eq (by rw [hB37]))))))) (.refl _))⟩
   refine ai.bool hB37 ?_
   replace hzz38:=bN hB37 hzz38
   refine ai.val rfl (az rfl yo xN rfl) rfl ?_
   refine ai.val rfl (aK H35 (i:=0) rfl rfl (aS kK rfl)) rfl ?_
   obtain ⟨z39,hzz39,hzz38⟩:=bind_some hzz38
   refine ai.ret rfl (aA rfl rfl) (mI E _ _ _ _ hzz39 _ _ (au.eq (au.eq .nil))) rfl ?_
   refine ai.val rfl (bu rfl) rfl ?_
   refine ai.val rfl (ay (b:=false) rfl rfl) rfl ?_
   cases hzz38
   exact ai.nil ⟨_,rfl,(ae.put (ae.push rfl (ae.push rfl (ae.push rfl (ae.push rfl (ae.put (.refl _) (Less.eq (by rw [hB37]))))))) (.refl _))⟩
  refine ai.nil ?_
  refine aj.cond rfl (fun hb40=>?_) (fun hb40=>?_)
  ·
   replace h:=bL hb40 h
   refine aj.seq ?_
   refine aj.region E.obj rfl ?_
   refine ai.val rfl (ah rfl) rfl ?_
   refine ai.nil ?_
   have hr:=Option.some.inj h
   subst hr
   exact aj.ret ⟨_,rfl,rfl,eF (au.eq .nil)⟩
  replace h:=bN hb40 h
  refine aj.skip ?_
  refine aj.region E.obj rfl ?_
  refine ai.val rfl (ak rfl rfl bY) rfl ?_
  refine ai.val rfl (aa rfl) rfl ?_
  refine ai.nil ?_
  exact ⟨(IntKind.wrap .i64 (x27 + 1)),_,_,S34,.refl _ _,.refl _,(ae.r rfl (ae.r rfl (ae.r rfl ae.nil))),H35.sl [] rfl rfl,h⟩
 replace h:=bN hb29 h
 refine aj.exit ?_
 refine aj.seq ?_
 refine aj.region E.obj rfl ?_
 refine ai.val rfl (ah rfl) rfl ?_
 refine ai.nil ?_
 have hr:=Option.some.inj h
 subst hr
 exact aj.ret ⟨_,rfl,rfl,eF (au.eq .nil)⟩
set_option maxRecDepth 20000 in
set_option maxHeartbeats 4000000 in
theorem pX (n:Nat) (a1:(List aG)) (a2:(List aG)) (r:Bool) (h:ig n a1 a2=some r):aY R cfg.P 27 [(.sl ((a1).map av) false),(.sl ((a2).map av) false)] (.d (.bool r)):=by
 unfold ig at h
 refine aY.of_wp E.obj.toObjOk (C:=cfg) Tryd.func27 rfl DV rfl ?_
 have H0:Has ax ax []:=Has.pure
 refine aj.seq ?_
 refine aj.region E.obj rfl ?_
 refine ai.val rfl (ah rfl) rfl ?_
 refine ai.nil ?_
 refine aj.seq ?_
 refine aj.seq ?_
 refine aj.region E.obj rfl ?_
 refine ai.val rfl (aa rfl) rfl ?_
 refine ai.val rfl (aR rfl tY) rfl ?_
 refine ai.val rfl (aa rfl) rfl ?_
 refine ai.val rfl (aR rfl tY) rfl ?_
 refine ai.val rfl (ak rfl rfl kT) rfl ?_
 refine ai.nil ?_
 refine aj.cond rfl (fun hb3=>?_) (fun hb3=>?_)
 ·
  replace h:=bL hb3 h
  refine aj.seq ?_
  refine aj.region E.obj rfl ?_
  refine ai.val rfl (ah rfl) rfl ?_
  refine ai.nil ?_
  have hr:=Option.some.inj h
  subst hr
  exact aj.ret ⟨_,rfl,rfl,eF (au.eq .nil)⟩
 replace h:=bN hb3 h
 refine aj.skip ?_
 refine aj.seq ?_
 refine aj.seq ?_
 refine aj.region E.obj rfl ?_
 refine ai.val rfl (aa rfl) rfl ?_
 refine ai.val rfl (aR rfl tY) rfl ?_
 refine ai.val rfl (aa rfl) rfl ?_
 refine ai.nil ?_
 refine aj.block ?_
 refine lZ.start (B:=ax) (α:=Int) (fun k a=>df n a1 a2 k a=some r) (fun a=>[(1,(.d (.sl ((a2).map av) false))),(14,(.d (.sl ((a1).map av) false))),(15,(.d (.int .i64 ((a1).length:Int)))),(16,(.d (.int .i64 a)))]) (fun a=>[]) ?_ ?_ n ⟨0,_,_,ax,.refl _ _,.refl _,(ae.r rfl (ae.r rfl (ae.r rfl (ae.r rfl ae.nil)))),H0.sl [] rfl rfl,h⟩
 ·
  intro a h; simp [df] at h
 intro k12 x11 S9 H10 h
 replace h:df n a1 a2 (k12 + 1) x11=some r:=h
 replace H10:Has ax S9 []:=H10
 unfold df at h
 refine aj.seq ?_
 refine aj.region E.obj rfl ?_
 refine ai.val rfl (ak rfl rfl bV) rfl ?_
 refine ai.nil ?_
 refine aj.seq ?_
 refine aj.cond rfl (fun hb13=>?_) (fun hb13=>?_)
 ·
  replace h:=bL hb13 h
  refine aj.skip ?_
  refine aj.seq ?_
  refine aj.block ?_
  refine aj.seq ?_
  refine aj.region E.obj rfl ?_
  obtain ⟨z14,hzz14,h⟩:=bind_some h
  refine ai.val rfl (bF rfl rfl (bU (enc:=av) hzz14 iB uB ((aG.len _).trans eO.symm))) rfl ?_
  refine ai.val rfl (aT rfl (aG.kS lT eO)) rfl ?_
  refine ai.alloc H10 rfl BU j4 rfl rfl (fun b15 S16 H17=>?_)
  refine ai.store H17 (i:=0) rfl rfl rfl rfl (aG.dX _) rfl eO rfl uB rfl rfl rfl (fun S18 H19=>?_)
  refine ai.nil ?_
  refine aj.seq ?_
  refine aj.region E.obj rfl ?_
  refine ai.val rfl (aa rfl) rfl ?_
  refine ai.val rfl (az rfl yC xN rfl) rfl ?_
  refine ai.val rfl (aK H19 (i:=0) rfl rfl (aS kK rfl)) rfl ?_
  obtain ⟨z20,hzz20,h⟩:=bind_some h
  refine ai.ret rfl (aA rfl rfl) (lD E _ _ _ _ hzz20 _ _ (au.eq (au.eq .nil))) rfl ?_
  refine ai.val rfl (aa rfl) rfl ?_
  refine ai.val rfl (aC rfl rfl) rfl ?_
  refine ai.val rfl (aC rfl rfl) rfl ?_
  refine ai.val rfl (ah rfl) rfl ?_
  refine ai.val rfl (ah rfl) rfl ?_
  refine ai.nil ?_
  refine aj.seq ?_
  refine aj.region E.obj rfl ?_
  refine ai.val rfl (aa rfl) rfl ?_
  refine ai.val rfl (bu rfl) rfl ?_
  refine ai.val rfl (aa rfl) rfl ?_
  refine ai.bP 5 34 (.d (.bool ((!z20.2) || (!(z20.1 == z14.Value))))) ?_ ?_
  ·
   rcases Bool.eq_false_or_eq_true ((!z20.2)) with hB21 | hB21
   ·
    refine ai.bool hB21 ?_
    refine ai.no rfl rfl ?_
    refine ai.no rfl rfl ?_
    refine ai.no rfl rfl ?_
    refine ai.no rfl rfl ?_
    refine ai.val rfl (ay (b:=true) rfl rfl) rfl ?_
    exact ai.nil ⟨_,rfl,(ae.put (ae.push rfl (ae.push rfl (ae.push rfl (ae.push rfl (ae.put (.refl _) (Less.eq (by rw [hB21]))))))) (Less.eq (by rw [hB21]; rw [Bool.true_or])))⟩
   refine ai.bool hB21 ?_
   refine ai.val rfl (aa rfl) rfl ?_
   refine ai.val rfl (az rfl yo xN rfl) rfl ?_
   refine ai.val rfl (aK H19 (i:=0) rfl rfl (aS kK rfl)) rfl ?_
   refine ai.val rfl (ak rfl rfl lg) rfl ?_
   refine ai.val rfl (ay (b:=false) rfl rfl) rfl ?_
   exact ai.nil ⟨_,rfl,(ae.put (ae.push rfl (ae.push rfl (ae.push rfl (ae.push rfl (ae.put (.refl _) (Less.eq (by rw [hB21]))))))) (Less.eq (by rw [hB21]; rw [Bool.false_or])))⟩
  refine ai.nil ?_
  refine aj.cond rfl (fun hb22=>?_) (fun hb22=>?_)
  ·
   replace h:=bL hb22 h
   refine aj.seq ?_
   refine aj.region E.obj rfl ?_
   refine ai.val rfl (ah rfl) rfl ?_
   refine ai.nil ?_
   have hr:=Option.some.inj h
   subst hr
   exact aj.ret ⟨_,rfl,rfl,eF (au.eq .nil)⟩
  replace h:=bN hb22 h
  refine aj.skip ?_
  refine aj.region E.obj rfl ?_
  refine ai.val rfl (ak rfl rfl bY) rfl ?_
  refine ai.val rfl (aa rfl) rfl ?_
  refine ai.nil ?_
  exact ⟨(IntKind.wrap .i64 (x11 + 1)),_,_,S18,.refl _ _,.refl _,(ae.r rfl (ae.r rfl (ae.r rfl (ae.r rfl ae.nil)))),H19.sl [] rfl rfl,h⟩
 replace h:=bN hb13 h
 refine aj.exit ?_
 refine aj.seq ?_
 refine aj.region E.obj rfl ?_
 refine ai.val rfl (ah rfl) rfl ?_
 refine ai.nil ?_
 have hr:=Option.some.inj h
 subst hr
 exact aj.ret ⟨_,rfl,rfl,eF (au.eq .nil)⟩
set_option maxRecDepth 20000 in
set_option maxHeartbeats 4000000 in
theorem eH (n:Nat) (a1:(List Seg)) (a2:(List aG)) (r:((List Str) × Bool)) (h:dD n a1 a2=some r):aY R cfg.P 10 [(.sl ((a1).map aM) false),(.sl ((a2).map av) false)] (.tup [.d (.sl ((r.1).map D.str) false),.d (.bool r.2)]):=by
 unfold dD at h
 refine aY.of_wp E.obj.toObjOk (C:=cfg) Tryd.func10 rfl Dm rfl ?_
 have H0:Has ax ax []:=Has.pure
 refine aj.seq ?_
 refine aj.region E.obj rfl ?_
 refine ai.val rfl (ah rfl) rfl ?_
 refine ai.val rfl (ah rfl) rfl ?_
 refine ai.nil ?_
 refine aj.seq ?_
 refine aj.seq ?_
 refine aj.region E.obj rfl ?_
 refine ai.val rfl (aa rfl) rfl ?_
 obtain ⟨z3,hzz3,h⟩:=bind_some h
 refine ai.ret rfl (aA rfl rfl) (gT E _ _ _ hzz3 _ _ (au.eq .nil)) rfl ?_
 refine ai.val rfl (bu rfl) rfl ?_
 refine ai.nil ?_
 refine aj.cond rfl (fun hb4=>?_) (fun hb4=>?_)
 ·
  replace h:=bL hb4 h
  refine aj.seq ?_
  refine aj.region E.obj rfl ?_
  refine ai.val rfl (ah rfl) rfl ?_
  refine ai.val rfl (ah rfl) rfl ?_
  refine ai.nil ?_
  have hr:=Option.some.inj h
  subst hr
  exact aj.ret ⟨_,rfl,rfl,gI (vs:=[(.d .bK),(.d (.bool false))]) (ds:=[(.sl (([]).map D.str) false),(.bool false)]) (au.fF rfl (.bK false) (au.eq .nil))⟩
 replace h:=bN hb4 h
 refine aj.skip ?_
 refine aj.seq ?_
 refine aj.region E.obj rfl ?_
 refine ai.val rfl (aa rfl) rfl ?_
 refine ai.val rfl (aa rfl) rfl ?_
 obtain ⟨z5,hzz5,h⟩:=bind_some h
 refine ai.ret rfl (aA rfl rfl) (qR E _ _ _ _ hzz5 _ _ (au.eq (au.eq .nil))) rfl ?_
 refine ai.val rfl (aa rfl) rfl ?_
 refine ai.val rfl (aC rfl rfl) rfl ?_
 refine ai.val rfl (aC rfl rfl) rfl ?_
 refine ai.val rfl (ah rfl) rfl ?_
 refine ai.val rfl (ah rfl) rfl ?_
 refine ai.nil ?_
 refine aj.seq ?_
 refine aj.seq ?_
 refine aj.region E.obj rfl ?_
 refine ai.val rfl (aa rfl) rfl ?_
 refine ai.val rfl (bu rfl) rfl ?_
 refine ai.val rfl (aa rfl) rfl ?_
 obtain ⟨z7,hzz7,h⟩:=bind_some h
 refine ai.bP 5 25 (.d (.bool z7)) ?_ ?_
 ·
  rcases Bool.eq_false_or_eq_true ((!z5.2)) with hB6 | hB6
  ·
   refine ai.bool hB6 ?_
   refine ai.no rfl rfl ?_
   refine ai.no rfl rfl ?_
   refine ai.no rfl rfl ?_
   refine ai.no rfl rfl ?_
   refine ai.val rfl (ay (b:=true) rfl rfl) rfl ?_
   replace hzz7:=bL hB6 hzz7
   cases hzz7
   exact ai.nil ⟨_,rfl,(ae.put (ae.push rfl (ae.push rfl (ae.push rfl (ae.push rfl (ae.put (.refl _) (Less.eq (by rw [hB6]))))))) (.refl _))⟩
  refine ai.bool hB6 ?_
  replace hzz7:=bN hB6 hzz7
  refine ai.val rfl (aa rfl) rfl ?_
  refine ai.val rfl (cK (cs:=[(.d (.sl ((z5.1).map D.str) false)),(.d .bK)]) Bw rfl (mQ) (dW rfl rfl rfl rfl rfl)) rfl ?_
  refine ai.less (Less.agg' (d:=kH (lh.mk z5.1 [])) (aQ.eq rfl (aQ.fF rfl (.bK false) rfl rfl .nil)) ((lh.eq _).trans rfl)) ?_
  obtain ⟨z8,hzz8,hzz7⟩:=bind_some hzz7
  refine ai.ret rfl (aA rfl rfl) (wo E _ _ _ hzz8 _ _ (au.eq .nil)) rfl ?_
  refine ai.val rfl (bu rfl) rfl ?_
  refine ai.val rfl (ay (b:=false) rfl rfl) rfl ?_
  cases hzz7
  exact ai.nil ⟨_,rfl,(ae.put (ae.push rfl (ae.push rfl (ae.push rfl (ae.push rfl (ae.put (.refl _) (Less.eq (by rw [hB6]))))))) (.refl _))⟩
 refine ai.nil ?_
 refine aj.cond rfl (fun hb9=>?_) (fun hb9=>?_)
 ·
  replace h:=bL hb9 h
  refine aj.seq ?_
  refine aj.region E.obj rfl ?_
  refine ai.val rfl (ah rfl) rfl ?_
  refine ai.val rfl (ah rfl) rfl ?_
  refine ai.nil ?_
  have hr:=Option.some.inj h
  subst hr
  exact aj.ret ⟨_,rfl,rfl,gI (vs:=[(.d .bK),(.d (.bool false))]) (ds:=[(.sl (([]).map D.str) false),(.bool false)]) (au.fF rfl (.bK false) (au.eq .nil))⟩
 replace h:=bN hb9 h
 refine aj.skip ?_
 refine aj.seq ?_
 refine aj.region E.obj rfl ?_
 refine ai.val rfl (aa rfl) rfl ?_
 refine ai.val rfl (aa rfl) rfl ?_
 obtain ⟨z10,hzz10,h⟩:=bind_some h
 refine ai.ret rfl (aA rfl rfl) (gW E _ _ _ _ hzz10 _ _ (au.eq (au.eq .nil))) rfl ?_
 refine ai.val rfl (aa rfl) rfl ?_
 refine ai.val rfl (aC rfl rfl) rfl ?_
 refine ai.val rfl (aC rfl rfl) rfl ?_
 refine ai.val rfl (ah rfl) rfl ?_
 refine ai.val rfl (ah rfl) rfl ?_
 refine ai.nil ?_
 refine aj.seq ?_
 refine aj.seq ?_
 refine aj.region E.obj rfl ?_
 refine ai.val rfl (aa rfl) rfl ?_
 refine ai.val rfl (bu rfl) rfl ?_
 refine ai.val rfl (aa rfl) rfl ?_
 obtain ⟨z12,hzz12,h⟩:=bind_some h
 refine ai.bP 5 39 (.d (.bool z12)) ?_ ?_
 ·
  rcases Bool.eq_false_or_eq_true ((!z10.2)) with hB11 | hB11
  ·
   refine ai.bool hB11 ?_
   refine ai.no rfl rfl ?_
   refine ai.no rfl rfl ?_
   refine ai.no rfl rfl ?_
   refine ai.no rfl rfl ?_
   refine ai.val rfl (ay (b:=true) rfl rfl) rfl ?_
   replace hzz12:=bL hB11 hzz12
   cases hzz12
   exact ai.nil ⟨_,rfl,(ae.put (ae.push rfl (ae.push rfl (ae.push rfl (ae.push rfl (ae.put (.refl _) (Less.eq (by rw [hB11]))))))) (.refl _))⟩
  refine ai.bool hB11 ?_
  replace hzz12:=bN hB11 hzz12
  refine ai.val rfl (aa rfl) rfl ?_
  refine ai.val rfl (aa rfl) rfl ?_
  obtain ⟨z13,hzz13,hzz12⟩:=bind_some hzz12
  refine ai.ret rfl (aA rfl rfl) (pX E _ _ _ _ hzz13 _ _ (au.eq (au.eq .nil))) rfl ?_
  refine ai.val rfl (bu rfl) rfl ?_
  refine ai.val rfl (ay (b:=false) rfl rfl) rfl ?_
  cases hzz12
  exact ai.nil ⟨_,rfl,(ae.put (ae.push rfl (ae.push rfl (ae.push rfl (ae.push rfl (ae.put (.refl _) (Less.eq (by rw [hB11]))))))) (.refl _))⟩
 refine ai.nil ?_
 refine aj.cond rfl (fun hb14=>?_) (fun hb14=>?_)
 ·
  replace h:=bL hb14 h
  refine aj.seq ?_
  refine aj.region E.obj rfl ?_
  refine ai.val rfl (ah rfl) rfl ?_
  refine ai.val rfl (ah rfl) rfl ?_
  refine ai.nil ?_
  have hr:=Option.some.inj h
  subst hr
  exact aj.ret ⟨_,rfl,rfl,gI (vs:=[(.d .bK),(.d (.bool false))]) (ds:=[(.sl (([]).map D.str) false),(.bool false)]) (au.fF rfl (.bK false) (au.eq .nil))⟩
 replace h:=bN hb14 h
 refine aj.skip ?_
 refine aj.seq ?_
 refine aj.region E.obj rfl ?_
 refine ai.val rfl (aa rfl) rfl ?_
 refine ai.val rfl (ah rfl) rfl ?_
 refine ai.val rfl (ah rfl) rfl ?_
 refine ai.nil ?_
 have hr:=Option.some.inj h
 subst hr
 exact aj.ret ⟨_,rfl,rfl,gI (vs:=[(.d (.sl ((z5.1).map D.str) false)),(.d (.bool true))]) (ds:=[(.sl ((z5.1).map D.str) false),(.bool true)]) (au.eq (au.eq .nil))⟩
set_option maxRecDepth 20000 in
set_option maxHeartbeats 4000000 in
theorem eX (n:Nat) (a1:(List Str)) (a2:(List Str)) (r:Bool) (h:bX n a1 a2=some r):aY R cfg.P 12 [(.sl ((a1).map D.str) false),(.sl ((a2).map D.str) false)] (.d (.bool r)):=by
 unfold bX at h
 refine aY.of_wp E.obj.toObjOk (C:=cfg) Tryd.func12 rfl Dc rfl ?_
 have H0:Has ax ax []:=Has.pure
 refine aj.seq ?_
 refine aj.region E.obj rfl ?_
 refine ai.val rfl (ah rfl) rfl ?_
 refine ai.nil ?_
 refine aj.seq ?_
 refine aj.seq ?_
 refine aj.region E.obj rfl ?_
 refine ai.val rfl (aa rfl) rfl ?_
 refine ai.val rfl (aR rfl mr) rfl ?_
 refine ai.val rfl (aa rfl) rfl ?_
 refine ai.val rfl (aR rfl mr) rfl ?_
 refine ai.val rfl (ak rfl rfl kT) rfl ?_
 refine ai.nil ?_
 refine aj.cond rfl (fun hb3=>?_) (fun hb3=>?_)
 ·
  replace h:=bL hb3 h
  refine aj.seq ?_
  refine aj.region E.obj rfl ?_
  refine ai.val rfl (ah rfl) rfl ?_
  refine ai.nil ?_
  have hr:=Option.some.inj h
  subst hr
  exact aj.ret ⟨_,rfl,rfl,eF (au.eq .nil)⟩
 replace h:=bN hb3 h
 refine aj.skip ?_
 refine aj.seq ?_
 refine aj.seq ?_
 refine aj.region E.obj rfl ?_
 refine ai.val rfl (ah rfl) rfl ?_
 refine ai.nil ?_
 refine aj.block ?_
 refine lZ.start (B:=ax) (α:=Int) (fun k a=>aW a1 a2 k a=some r) (fun a=>[(0,(.d (.sl ((a1).map D.str) false))),(1,(.d (.sl ((a2).map D.str) false))),(5,(.d (.int .i64 a)))]) (fun a=>[]) ?_ ?_ n ⟨0,_,_,ax,.refl _ _,.refl _,(ae.r rfl (ae.r rfl (ae.r rfl ae.nil))),H0.sl [] rfl rfl,h⟩
 ·
  intro a h; simp [aW] at h
 intro k12 x11 S9 H10 h
 replace h:aW a1 a2 (k12 + 1) x11=some r:=h
 replace H10:Has ax S9 []:=H10
 unfold aW at h
 refine aj.seq ?_
 refine aj.seq ?_
 refine aj.region E.obj rfl ?_
 refine ai.val rfl (aa rfl) rfl ?_
 refine ai.val rfl (aa rfl) rfl ?_
 refine ai.val rfl (aR rfl mr) rfl ?_
 refine ai.val rfl (ak rfl rfl bV) rfl ?_
 refine ai.nil ?_
 refine aj.cond rfl (fun hb13=>?_) (fun hb13=>?_)
 ·
  replace h:=bL hb13 h
  refine aj.skip ?_
  refine aj.seq ?_
  refine aj.block ?_
  refine aj.seq ?_
  obtain ⟨z14,hzz14,h⟩:=bind_some h
  obtain ⟨z15,hzz15,h⟩:=bind_some h
  refine aj.nO E.obj um Eh [(0,none),(1,none),(5,none),(25,some 8)] (by kernel_rfl) [] (by decide) [some (.d (.sl ((a1).map D.str) false)),some (.d (.int .i64 x11)),some (.eptr (.str z14) 0),some (.d (.str z14)),some (.d (.sl ((a2).map D.str) false)),some (.d (.int .i64 x11)),some (.eptr (.str z15) 0),some (.d (.str z15)),some (.d (.bool (!(z14 == z15))))] ?_
  refine ⟨[0,1,2,3,4,5,6,7,8],by kernel_rfl,?_,_,rfl,?_⟩
  ·
   refine .v rfl rfl rfl rfl (aa rfl) ?_
   refine .v rfl rfl rfl rfl (aa rfl) ?_
   refine .v rfl rfl rfl rfl (bF rfl rfl (bU (enc:=D.str) hzz14 fV xO (((fun _=>rfl) _).trans jy.symm))) ?_
   refine .v rfl rfl rfl rfl (aT rfl (cz kK rfl)) ?_
   refine .v rfl rfl rfl rfl (aa rfl) ?_
   refine .v rfl rfl rfl rfl (aa rfl) ?_
   refine .v rfl rfl rfl rfl (bF rfl rfl (bU (enc:=D.str) hzz15 fV xO (((fun _=>rfl) _).trans jy.symm))) ?_
   refine .v rfl rfl rfl rfl (aT rfl (cz kK rfl)) ?_
   refine .v rfl rfl rfl rfl (ak rfl rfl lg) ?_
   exact .nil
  refine aj.cond rfl (fun hb16=>?_) (fun hb16=>?_)
  ·
   replace h:=bL hb16 h
   refine aj.seq ?_
   refine aj.region E.obj rfl ?_
   refine ai.val rfl (ah rfl) rfl ?_
   refine ai.nil ?_
   have hr:=Option.some.inj h
   subst hr
   exact aj.ret ⟨_,rfl,rfl,eF (au.eq .nil)⟩
  replace h:=bN hb16 h
  refine aj.skip ?_
  refine aj.region E.obj rfl ?_
  refine ai.val rfl (aa rfl) rfl ?_
  refine ai.val rfl (ak rfl rfl bY) rfl ?_
  refine ai.val rfl (ah rfl) rfl ?_
  refine ai.nil ?_
  exact ⟨(IntKind.wrap .i64 (x11 + 1)),_,_,S9,.refl _ _,.refl _,(ae.r rfl (ae.r rfl (ae.r rfl ae.nil))),H10.sl [] rfl rfl,h⟩
 replace h:=bN hb13 h
 refine aj.exit ?_
 refine aj.seq ?_
 refine aj.region E.obj rfl ?_
 refine ai.val rfl (ah rfl) rfl ?_
 refine ai.nil ?_
 have hr:=Option.some.inj h
 subst hr
 exact aj.ret ⟨_,rfl,rfl,eF (au.eq .nil)⟩
set_option maxRecDepth 20000 in
set_option maxHeartbeats 4000000 in
theorem jr (n:Nat) (a1:(List aG)) (a2:(List aG)) (r:Bool) (h:fe n a1 a2=some r):aY R cfg.P 15 [(.sl ((a1).map av) false),(.sl ((a2).map av) false)] (.d (.bool r)):=by
 unfold fe at h
 refine aY.of_wp E.obj.toObjOk (C:=cfg) Tryd.func15 rfl DK rfl ?_
 have H0:Has ax ax []:=Has.pure
 refine aj.seq ?_
 refine aj.region E.obj rfl ?_
 refine ai.val rfl (ah rfl) rfl ?_
 refine ai.nil ?_
 refine aj.seq ?_
 refine aj.seq ?_
 refine aj.region E.obj rfl ?_
 refine ai.val rfl (aa rfl) rfl ?_
 refine ai.val rfl (aR rfl tY) rfl ?_
 refine ai.val rfl (aa rfl) rfl ?_
 refine ai.val rfl (aR rfl tY) rfl ?_
 refine ai.val rfl (ak rfl rfl kT) rfl ?_
 refine ai.nil ?_
 refine aj.cond rfl (fun hb3=>?_) (fun hb3=>?_)
 ·
  replace h:=bL hb3 h
  refine aj.seq ?_
  refine aj.region E.obj rfl ?_
  refine ai.val rfl (ah rfl) rfl ?_
  refine ai.nil ?_
  have hr:=Option.some.inj h
  subst hr
  exact aj.ret ⟨_,rfl,rfl,eF (au.eq .nil)⟩
 replace h:=bN hb3 h
 refine aj.skip ?_
 refine aj.seq ?_
 refine aj.seq ?_
 refine aj.region E.obj rfl ?_
 refine ai.val rfl (ah rfl) rfl ?_
 refine ai.nil ?_
 refine aj.block ?_
 refine lZ.start (B:=ax) (α:=Int) (fun k a=>bO a1 a2 k a=some r) (fun a=>[(0,(.d (.sl ((a1).map av) false))),(1,(.d (.sl ((a2).map av) false))),(5,(.d (.int .i64 a)))]) (fun a=>[]) ?_ ?_ n ⟨0,_,_,ax,.refl _ _,.refl _,(ae.r rfl (ae.r rfl (ae.r rfl ae.nil))),H0.sl [] rfl rfl,h⟩
 ·
  intro a h; simp [bO] at h
 intro k12 x11 S9 H10 h
 replace h:bO a1 a2 (k12 + 1) x11=some r:=h
 replace H10:Has ax S9 []:=H10
 unfold bO at h
 refine aj.seq ?_
 refine aj.seq ?_
 refine aj.region E.obj rfl ?_
 refine ai.val rfl (aa rfl) rfl ?_
 refine ai.val rfl (aa rfl) rfl ?_
 refine ai.val rfl (aR rfl tY) rfl ?_
 refine ai.val rfl (ak rfl rfl bV) rfl ?_
 refine ai.nil ?_
 refine aj.cond rfl (fun hb13=>?_) (fun hb13=>?_)
 ·
  replace h:=bL hb13 h
  refine aj.skip ?_
  refine aj.seq ?_
  refine aj.block ?_
  refine aj.seq ?_
  obtain ⟨z14,hzz14,h⟩:=bind_some h
  obtain ⟨z15,hzz15,h⟩:=bind_some h
  refine aj.nO E.obj um Eh [(0,none),(1,none),(5,none),(25,some 8)] (by kernel_rfl) [] (by decide) [some (.d (.sl ((a1).map av) false)),some (.d (.int .i64 x11)),some (.eptr (av z14) 0),some (.d (av z14)),some (.d (.sl ((a2).map av) false)),some (.d (.int .i64 x11)),some (.eptr (av z15) 0),some (.d (av z15)),some (.d (.bool (!(aG.beq z14 z15))))] ?_
  refine ⟨[0,1,2,3,4,5,6,7,8],by kernel_rfl,?_,_,rfl,?_⟩
  ·
   refine .v rfl rfl rfl rfl (aa rfl) ?_
   refine .v rfl rfl rfl rfl (aa rfl) ?_
   refine .v rfl rfl rfl rfl (bF rfl rfl (bU (enc:=av) hzz14 iB uB ((aG.len _).trans eO.symm))) ?_
   refine .v rfl rfl rfl rfl (aT rfl (aG.kS lT eO)) ?_
   refine .v rfl rfl rfl rfl (aa rfl) ?_
   refine .v rfl rfl rfl rfl (aa rfl) ?_
   refine .v rfl rfl rfl rfl (bF rfl rfl (bU (enc:=av) hzz15 iB uB ((aG.len _).trans eO.symm))) ?_
   refine .v rfl rfl rfl rfl (aT rfl (aG.kS lT eO)) ?_
   refine .v rfl rfl rfl rfl (ak rfl rfl (yM (aG.eq _) (aG.eq _) (CF _ _))) ?_
   exact .nil
  refine aj.cond rfl (fun hb16=>?_) (fun hb16=>?_)
  ·
   replace h:=bL hb16 h
   refine aj.seq ?_
   refine aj.region E.obj rfl ?_
   refine ai.val rfl (ah rfl) rfl ?_
   refine ai.nil ?_
   have hr:=Option.some.inj h
   subst hr
   exact aj.ret ⟨_,rfl,rfl,eF (au.eq .nil)⟩
  replace h:=bN hb16 h
  refine aj.skip ?_
  refine aj.region E.obj rfl ?_
  refine ai.val rfl (aa rfl) rfl ?_
  refine ai.val rfl (ak rfl rfl bY) rfl ?_
  refine ai.val rfl (ah rfl) rfl ?_
  refine ai.nil ?_
  exact ⟨(IntKind.wrap .i64 (x11 + 1)),_,_,S9,.refl _ _,.refl _,(ae.r rfl (ae.r rfl (ae.r rfl ae.nil))),H10.sl [] rfl rfl,h⟩
 replace h:=bN hb13 h
 refine aj.exit ?_
 refine aj.seq ?_
 refine aj.region E.obj rfl ?_
 refine ai.val rfl (ah rfl) rfl ?_
 refine ai.nil ?_
 have hr:=Option.some.inj h
 subst hr
 exact aj.ret ⟨_,rfl,rfl,eF (au.eq .nil)⟩
set_option maxRecDepth 20000 in
set_option maxHeartbeats 4000000 in
theorem iJ (n:Nat) (a1:Str) (a2:Str) (r:Bool) (h:dJ n a1 a2=some r):aY R cfg.P 67 [(.str a1),(.str a2)] (.d (.bool r)):=by
 unfold dJ at h
 refine aY.of_wp E.obj.toObjOk (C:=cfg) Tryd.func67 rfl DD rfl ?_
 have H0:Has ax ax []:=Has.pure
 refine aj.seq ?_
 refine aj.region E.obj rfl ?_
 refine ai.val rfl (ah rfl) rfl ?_
 refine ai.nil ?_
 refine aj.seq ?_
 refine aj.region E.obj rfl ?_
 refine ai.val rfl (aa rfl) rfl ?_
 refine ai.val rfl (dR rfl (dN pR) rfl) rfl ?_
 refine ai.val rfl (aa rfl) rfl ?_
 refine ai.val rfl (dR rfl (dN pR) rfl) rfl ?_
 refine ai.val rfl (ak rfl rfl gu) rfl ?_
 refine ai.val rfl (aa rfl) rfl ?_
 obtain ⟨z4,hzz4,h⟩:=bind_some h
 refine ai.bP 7 17 (.d (.bool z4)) ?_ ?_
 ·
  rcases Bool.eq_false_or_eq_true ((decide (((a2).length:Int) ≤ ((a1).length:Int)))) with hB3 | hB3
  ·
   refine ai.bool hB3 ?_
   replace hzz4:=bL hB3 hzz4
   refine ai.val rfl (aa rfl) rfl ?_
   refine ai.val rfl (aa rfl) rfl ?_
   refine ai.val rfl (dR rfl (dN pR) rfl) rfl ?_
   obtain ⟨z5,hzz5,hzz4⟩:=bind_some hzz4
   refine ai.val rfl (qo rfl rfl pR hzz5) rfl ?_
   refine ai.val rfl (aa rfl) rfl ?_
   refine ai.val rfl (ak rfl rfl je) rfl ?_
   refine ai.val rfl (ay (b:=true) rfl rfl) rfl ?_
   cases hzz4
   exact ai.nil ⟨_,rfl,(ae.put (ae.push rfl (ae.push rfl (ae.push rfl (ae.push rfl (ae.push rfl (ae.push rfl (ae.put (.refl _) (Less.eq (by rw [hB3]))))))))) (.refl _))⟩
  refine ai.bool hB3 ?_
  refine ai.no rfl rfl ?_
  refine ai.no rfl rfl ?_
  refine ai.no rfl rfl ?_
  refine ai.no rfl rfl ?_
  refine ai.no rfl rfl ?_
  refine ai.no rfl rfl ?_
  refine ai.val rfl (ay (b:=false) rfl rfl) rfl ?_
  replace hzz4:=bN hB3 hzz4
  cases hzz4
  exact ai.nil ⟨_,rfl,(ae.put (ae.push rfl (ae.push rfl (ae.push rfl (ae.push rfl (ae.push rfl (ae.push rfl (ae.put (.refl _) (Less.eq (by rw [hB3]))))))))) (.refl _))⟩
 refine ai.val rfl (ah rfl) rfl ?_
 refine ai.nil ?_
 have hr:=Option.some.inj h
 subst hr
 exact aj.ret ⟨_,rfl,rfl,eF (au.eq .nil)⟩
set_option maxRecDepth 20000 in
set_option maxHeartbeats 4000000 in
theorem iM (n:Nat) (a1:Str) (a2:Str) (r:Bool) (h:dL n a1 a2=some r):aY R cfg.P 82 [(.str a1),(.str a2)] (.d (.bool r)):=by
 unfold dL at h
 refine aY.of_wp E.obj.toObjOk (C:=cfg) Tryd.func82 rfl DU rfl ?_
 have H0:Has ax ax []:=Has.pure
 refine aj.seq ?_
 refine aj.region E.obj rfl ?_
 refine ai.val rfl (ah rfl) rfl ?_
 refine ai.nil ?_
 refine aj.seq ?_
 refine aj.region E.obj rfl ?_
 refine ai.val rfl (aa rfl) rfl ?_
 refine ai.val rfl (dR rfl (dN pR) rfl) rfl ?_
 refine ai.val rfl (aa rfl) rfl ?_
 refine ai.val rfl (dR rfl (dN pR) rfl) rfl ?_
 refine ai.val rfl (ak rfl rfl gu) rfl ?_
 refine ai.val rfl (aa rfl) rfl ?_
 obtain ⟨z4,hzz4,h⟩:=bind_some h
 refine ai.bP 10 20 (.d (.bool z4)) ?_ ?_
 ·
  rcases Bool.eq_false_or_eq_true ((decide (((a2).length:Int) ≤ ((a1).length:Int)))) with hB3 | hB3
  ·
   refine ai.bool hB3 ?_
   replace hzz4:=bL hB3 hzz4
   refine ai.val rfl (aa rfl) rfl ?_
   refine ai.val rfl (aa rfl) rfl ?_
   refine ai.val rfl (dR rfl (dN pR) rfl) rfl ?_
   refine ai.val rfl (aa rfl) rfl ?_
   refine ai.val rfl (dR rfl (dN pR) rfl) rfl ?_
   refine ai.val rfl (ak rfl rfl fA) rfl ?_
   obtain ⟨z5,hzz5,hzz4⟩:=bind_some hzz4
   refine ai.val rfl (ny rfl rfl pR hzz5) rfl ?_
   refine ai.val rfl (aa rfl) rfl ?_
   refine ai.val rfl (ak rfl rfl je) rfl ?_
   refine ai.val rfl (ay (b:=true) rfl rfl) rfl ?_
   cases hzz4
   exact ai.nil ⟨_,rfl,(ae.put (ae.push rfl (ae.push rfl (ae.push rfl (ae.push rfl (ae.push rfl (ae.push rfl (ae.push rfl (ae.push rfl (ae.push rfl (ae.put (.refl _) (Less.eq (by rw [hB3])))))))))))) (.refl _))⟩
  refine ai.bool hB3 ?_
  refine ai.no rfl rfl ?_
  refine ai.no rfl rfl ?_
  refine ai.no rfl rfl ?_
  refine ai.no rfl rfl ?_
  refine ai.no rfl rfl ?_
  refine ai.no rfl rfl ?_
  refine ai.no rfl rfl ?_
  refine ai.no rfl rfl ?_
  refine ai.no rfl rfl ?_
  refine ai.val rfl (ay (b:=false) rfl rfl) rfl ?_
  replace hzz4:=bN hB3 hzz4
  cases hzz4
  exact ai.nil ⟨_,rfl,(ae.put (ae.push rfl (ae.push rfl (ae.push rfl (ae.push rfl (ae.push rfl (ae.push rfl (ae.push rfl (ae.push rfl (ae.push rfl (ae.put (.refl _) (Less.eq (by rw [hB3])))))))))))) (.refl _))⟩
 refine ai.val rfl (ah rfl) rfl ?_
 refine ai.nil ?_
 have hr:=Option.some.inj h
 subst hr
 exact aj.ret ⟨_,rfl,rfl,eF (au.eq .nil)⟩
set_option maxRecDepth 20000 in
set_option maxHeartbeats 4000000 in
theorem iK (n:Nat) (a1:Str) (a2:Str) (r:(Str × Bool)) (h:dM n a1 a2=some r):aY R cfg.P 52 [(.str a1),(.str a2)] (.tup [.d (.str r.1),.d (.bool r.2)]):=by
 unfold dM at h
 refine aY.of_wp E.obj.toObjOk (C:=cfg) Tryd.func52 rfl C9 rfl ?_
 have H0:Has ax ax []:=Has.pure
 refine aj.seq ?_
 refine aj.region E.obj rfl ?_
 refine ai.val rfl (ah rfl) rfl ?_
 refine ai.val rfl (ah rfl) rfl ?_
 refine ai.nil ?_
 refine aj.seq ?_
 refine aj.seq ?_
 refine aj.region E.obj rfl ?_
 refine ai.val rfl (aa rfl) rfl ?_
 refine ai.val rfl (aa rfl) rfl ?_
 obtain ⟨z3,hzz3,h⟩:=bind_some h
 refine ai.ret rfl (aA rfl rfl) (iJ E _ _ _ _ hzz3 _ _ (au.eq (au.eq .nil))) rfl ?_
 refine ai.val rfl (bu rfl) rfl ?_
 refine ai.nil ?_
 refine aj.cond rfl (fun hb4=>?_) (fun hb4=>?_)
 ·
  replace h:=bL hb4 h
  refine aj.seq ?_
  refine aj.region E.obj rfl ?_
  refine ai.val rfl (aa rfl) rfl ?_
  refine ai.val rfl (ah rfl) rfl ?_
  refine ai.val rfl (ah rfl) rfl ?_
  refine ai.nil ?_
  have hr:=Option.some.inj h
  subst hr
  exact aj.ret ⟨_,rfl,rfl,gI (vs:=[(.d (.str a1)),(.d (.bool false))]) (ds:=[(.str a1),(.bool false)]) (au.eq (au.eq .nil))⟩
 replace h:=bN hb4 h
 refine aj.skip ?_
 refine aj.seq ?_
 refine aj.region E.obj rfl ?_
 refine ai.val rfl (aa rfl) rfl ?_
 refine ai.val rfl (aa rfl) rfl ?_
 refine ai.val rfl (dR rfl (dN pR) rfl) rfl ?_
 obtain ⟨z5,hzz5,h⟩:=bind_some h
 refine ai.val rfl (ny rfl rfl pR hzz5) rfl ?_
 refine ai.val rfl (ah rfl) rfl ?_
 refine ai.val rfl (ah rfl) rfl ?_
 refine ai.nil ?_
 have hr:=Option.some.inj h
 subst hr
 exact aj.ret ⟨_,rfl,rfl,gI (vs:=[(.d (.str z5)),(.d (.bool true))]) (ds:=[(.str z5),(.bool true)]) (au.eq (au.eq .nil))⟩
set_option maxRecDepth 20000 in
set_option maxHeartbeats 4000000 in
theorem iL (n:Nat) (a1:Str) (a2:Str) (r:(Str × Bool)) (h:dK n a1 a2=some r):aY R cfg.P 71 [(.str a1),(.str a2)] (.tup [.d (.str r.1),.d (.bool r.2)]):=by
 unfold dK at h
 refine aY.of_wp E.obj.toObjOk (C:=cfg) Tryd.func71 rfl D5 rfl ?_
 have H0:Has ax ax []:=Has.pure
 refine aj.seq ?_
 refine aj.region E.obj rfl ?_
 refine ai.val rfl (ah rfl) rfl ?_
 refine ai.val rfl (ah rfl) rfl ?_
 refine ai.nil ?_
 refine aj.seq ?_
 refine aj.seq ?_
 refine aj.region E.obj rfl ?_
 refine ai.val rfl (aa rfl) rfl ?_
 refine ai.val rfl (aa rfl) rfl ?_
 obtain ⟨z3,hzz3,h⟩:=bind_some h
 refine ai.ret rfl (aA rfl rfl) (iM E _ _ _ _ hzz3 _ _ (au.eq (au.eq .nil))) rfl ?_
 refine ai.val rfl (bu rfl) rfl ?_
 refine ai.nil ?_
 refine aj.cond rfl (fun hb4=>?_) (fun hb4=>?_)
 ·
  replace h:=bL hb4 h
  refine aj.seq ?_
  refine aj.region E.obj rfl ?_
  refine ai.val rfl (aa rfl) rfl ?_
  refine ai.val rfl (ah rfl) rfl ?_
  refine ai.val rfl (ah rfl) rfl ?_
  refine ai.nil ?_
  have hr:=Option.some.inj h
  subst hr
  exact aj.ret ⟨_,rfl,rfl,gI (vs:=[(.d (.str a1)),(.d (.bool false))]) (ds:=[(.str a1),(.bool false)]) (au.eq (au.eq .nil))⟩
 replace h:=bN hb4 h
 refine aj.skip ?_
 refine aj.seq ?_
 refine aj.region E.obj rfl ?_
 refine ai.val rfl (aa rfl) rfl ?_
 refine ai.val rfl (aa rfl) rfl ?_
 refine ai.val rfl (dR rfl (dN pR) rfl) rfl ?_
 refine ai.val rfl (aa rfl) rfl ?_
 refine ai.val rfl (dR rfl (dN pR) rfl) rfl ?_
 refine ai.val rfl (ak rfl rfl fA) rfl ?_
 obtain ⟨z5,hzz5,h⟩:=bind_some h
 refine ai.val rfl (qo rfl rfl pR hzz5) rfl ?_
 refine ai.val rfl (ah rfl) rfl ?_
 refine ai.val rfl (ah rfl) rfl ?_
 refine ai.nil ?_
 have hr:=Option.some.inj h
 subst hr
 exact aj.ret ⟨_,rfl,rfl,gI (vs:=[(.d (.str z5)),(.d (.bool true))]) (ds:=[(.str z5),(.bool true)]) (au.eq (au.eq .nil))⟩
set_option maxRecDepth 20000 in
set_option maxHeartbeats 4000000 in
theorem gF (n:Nat) (a1:Str) (a2:Str) (r:(Str × Bool)) (h:strings_CutPrefix n a1 a2=some r):aY R cfg.P 39 [(.str a1),(.str a2)] (.tup [.d (.str r.1),.d (.bool r.2)]):=by
 unfold strings_CutPrefix at h
 refine aY.of_wp E.obj.toObjOk (C:=cfg) Tryd.func39 rfl D8 rfl ?_
 have H0:Has ax ax []:=Has.pure
 refine aj.seq ?_
 refine aj.region E.obj rfl ?_
 refine ai.val rfl (ah rfl) rfl ?_
 refine ai.val rfl (ah rfl) rfl ?_
 refine ai.nil ?_
 refine aj.seq ?_
 refine aj.region E.obj rfl ?_
 refine ai.val rfl (aa rfl) rfl ?_
 refine ai.val rfl (aa rfl) rfl ?_
 obtain ⟨z3,hzz3,h⟩:=bind_some h
 refine ai.ret rfl (aA rfl rfl) (iK E _ _ _ _ hzz3 _ _ (au.eq (au.eq .nil))) rfl ?_
 refine ai.val rfl (aC rfl rfl) rfl ?_
 refine ai.val rfl (aC rfl rfl) rfl ?_
 refine ai.val rfl (ah rfl) rfl ?_
 refine ai.val rfl (ah rfl) rfl ?_
 refine ai.nil ?_
 have hr:=Option.some.inj h
 subst hr
 exact aj.ret ⟨_,rfl,rfl,gI (vs:=[(.d (.str z3.1)),(.d (.bool z3.2))]) (ds:=[(.str z3.1),(.bool z3.2)]) (au.eq (au.eq .nil))⟩
set_option maxRecDepth 20000 in
set_option maxHeartbeats 4000000 in
theorem mF (n:Nat) (a1:Str) (a2:Str) (r:(Str × Bool)) (h:strings_CutSuffix n a1 a2=some r):aY R cfg.P 54 [(.str a1),(.str a2)] (.tup [.d (.str r.1),.d (.bool r.2)]):=by
 unfold strings_CutSuffix at h
 refine aY.of_wp E.obj.toObjOk (C:=cfg) Tryd.func54 rfl DL rfl ?_
 have H0:Has ax ax []:=Has.pure
 refine aj.seq ?_
 refine aj.region E.obj rfl ?_
 refine ai.val rfl (ah rfl) rfl ?_
 refine ai.val rfl (ah rfl) rfl ?_
 refine ai.nil ?_
 refine aj.seq ?_
 refine aj.region E.obj rfl ?_
 refine ai.val rfl (aa rfl) rfl ?_
 refine ai.val rfl (aa rfl) rfl ?_
 obtain ⟨z3,hzz3,h⟩:=bind_some h
 refine ai.ret rfl (aA rfl rfl) (iL E _ _ _ _ hzz3 _ _ (au.eq (au.eq .nil))) rfl ?_
 refine ai.val rfl (aC rfl rfl) rfl ?_
 refine ai.val rfl (aC rfl rfl) rfl ?_
 refine ai.val rfl (ah rfl) rfl ?_
 refine ai.val rfl (ah rfl) rfl ?_
 refine ai.nil ?_
 have hr:=Option.some.inj h
 subst hr
 exact aj.ret ⟨_,rfl,rfl,gI (vs:=[(.d (.str z3.1)),(.d (.bool z3.2))]) (ds:=[(.str z3.1),(.bool z3.2)]) (au.eq (au.eq .nil))⟩
set_option maxRecDepth 20000 in
set_option maxHeartbeats 4000000 in
theorem oz (n:Nat) (a1:Str) (r:Seg) (h:jq n a1=some r):aY R cfg.P 41 [(.str a1)] (.d (aM r)):=by
 unfold jq at h
 refine aY.of_wp E.obj.toObjOk (C:=cfg) Tryd.func41 rfl CY rfl ?_
 have H0:Has ax ax []:=Has.pure
 refine aj.seq ?_
 refine aj.region E.obj rfl ?_
 refine ai.alloc H0 rfl y9 nM rfl rfl (fun b2 S3 H4=>?_)
 refine ai.nil ?_
 refine aj.seq ?_
 refine aj.seq ?_
 refine aj.region E.obj rfl ?_
 refine ai.val rfl (aa rfl) rfl ?_
 obtain ⟨z5,hzz5,h⟩:=bind_some h
 refine ai.ret rfl (aA rfl rfl) (gF E _ _ _ _ hzz5 _ _ (au.eq (au.eq .nil))) rfl ?_
 refine ai.val rfl (aa rfl) rfl ?_
 refine ai.val rfl (aC rfl rfl) rfl ?_
 refine ai.val rfl (aC rfl rfl) rfl ?_
 refine ai.val rfl (ah rfl) rfl ?_
 refine ai.val rfl (ah rfl) rfl ?_
 refine ai.nil ?_
 refine aj.seq ?_
 refine aj.region E.obj rfl ?_
 refine ai.val rfl (aa rfl) rfl ?_
 refine ai.nil ?_
 refine aj.cond rfl (fun hb6=>?_) (fun hb6=>?_)
 ·
  replace h:=bL hb6 h
  refine aj.seq ?_
  refine aj.region E.obj rfl ?_
  refine ai.val rfl (aa rfl) rfl ?_
  refine ai.val rfl (cK (cs:=[(.d (.int .i64 3)),(.d (.str z5.1))]) nM rfl (eQ) (dW rfl rfl rfl rfl (dW rfl rfl rfl rfl rfl))) rfl ?_
  refine ai.less (Less.agg' (d:=aM (Seg.mk 3 z5.1)) (aQ.eq rfl (aQ.eq rfl .nil)) ((Seg.eq _).trans rfl)) ?_
  refine ai.store H4 (i:=0) rfl rfl rfl rfl (Seg.dX _) rfl gN rfl pE rfl rfl rfl (fun S7 H8=>?_)
  refine ai.nil ?_
  have hr:=Option.some.inj h
  subst hr
  exact aj.ret ⟨_,ic H8 (i:=0) rfl rfl rfl (iW pO gN rfl),rfl,eF (au.mO (d:=aM (Seg.mk 3 z5.1)) (aQ.eq rfl (aQ.eq rfl .nil)) ((Seg.eq _).trans rfl))⟩
 replace h:=bN hb6 h
 refine aj.skip ?_
 refine aj.seq ?_
 refine aj.region E.obj rfl ?_
 refine ai.val rfl (aa rfl) rfl ?_
 obtain ⟨z9,hzz9,h⟩:=bind_some h
 refine ai.ret rfl (aA rfl rfl) (gF E _ _ _ _ hzz9 _ _ (au.eq (au.eq .nil))) rfl ?_
 refine ai.val rfl (aa rfl) rfl ?_
 refine ai.val rfl (aC rfl rfl) rfl ?_
 refine ai.val rfl (aC rfl rfl) rfl ?_
 refine ai.val rfl (ah rfl) rfl ?_
 refine ai.val rfl (ah rfl) rfl ?_
 refine ai.nil ?_
 refine aj.seq ?_
 refine aj.seq ?_
 refine aj.region E.obj rfl ?_
 refine ai.val rfl (aa rfl) rfl ?_
 refine ai.val rfl (bu rfl) rfl ?_
 refine ai.nil ?_
 refine aj.cond rfl (fun hb10=>?_) (fun hb10=>?_)
 ·
  replace h:=bL hb10 h
  refine aj.seq ?_
  refine aj.region E.obj rfl ?_
  refine ai.val rfl (aa rfl) rfl ?_
  refine ai.val rfl (cK (cs:=[(.d (.int .i64 0)),(.d (.str a1))]) nM rfl (eQ) (dW rfl rfl rfl rfl rfl)) rfl ?_
  refine ai.less (Less.agg' (d:=aM (Seg.mk 0 a1)) (aQ.eq rfl (aQ.eq rfl .nil)) ((Seg.eq _).trans rfl)) ?_
  refine ai.store H4 (i:=0) rfl rfl rfl rfl (Seg.dX _) rfl gN rfl pE rfl rfl rfl (fun S11 H12=>?_)
  refine ai.nil ?_
  have hr:=Option.some.inj h
  subst hr
  exact aj.ret ⟨_,ic H12 (i:=0) rfl rfl rfl (iW pO gN rfl),rfl,eF (au.mO (d:=aM (Seg.mk 0 a1)) (aQ.eq rfl (aQ.eq rfl .nil)) ((Seg.eq _).trans rfl))⟩
 replace h:=bN hb10 h
 refine aj.skip ?_
 refine aj.seq ?_
 refine aj.seq ?_
 refine aj.region E.obj rfl ?_
 refine ai.val rfl (aa rfl) rfl ?_
 obtain ⟨z13,hzz13,h⟩:=bind_some h
 refine ai.ret rfl (aA rfl rfl) (mF E _ _ _ _ hzz13 _ _ (au.eq (au.eq .nil))) rfl ?_
 refine ai.val rfl (aa rfl) rfl ?_
 refine ai.val rfl (aC rfl rfl) rfl ?_
 refine ai.val rfl (aC rfl rfl) rfl ?_
 refine ai.val rfl (ah rfl) rfl ?_
 refine ai.val rfl (ah rfl) rfl ?_
 refine ai.nil ?_
 refine aj.seq ?_
 refine aj.region E.obj rfl ?_
 refine ai.val rfl (aa rfl) rfl ?_
 refine ai.nil ?_
 refine aj.cond rfl (fun hb14=>?_) (fun hb14=>?_)
 ·
  replace h:=bL hb14 h
  refine aj.seq ?_
  refine aj.region E.obj rfl ?_
  refine ai.val rfl (aa rfl) rfl ?_
  refine ai.val rfl (cK (cs:=[(.d (.int .i64 2)),(.d (.str z13.1))]) nM rfl (eQ) (dW rfl rfl rfl rfl (dW rfl rfl rfl rfl rfl))) rfl ?_
  refine ai.less (Less.agg' (d:=aM (Seg.mk 2 z13.1)) (aQ.eq rfl (aQ.eq rfl .nil)) ((Seg.eq _).trans rfl)) ?_
  refine ai.store H4 (i:=0) rfl rfl rfl rfl (Seg.dX _) rfl gN rfl pE rfl rfl rfl (fun S15 H16=>?_)
  refine ai.nil ?_
  have hr:=Option.some.inj h
  subst hr
  exact aj.ret ⟨_,ic H16 (i:=0) rfl rfl rfl (iW pO gN rfl),rfl,eF (au.mO (d:=aM (Seg.mk 2 z13.1)) (aQ.eq rfl (aQ.eq rfl .nil)) ((Seg.eq _).trans rfl))⟩
 replace h:=bN hb14 h
 refine aj.skip ?_
 refine aj.seq ?_
 refine aj.region E.obj rfl ?_
 refine ai.val rfl (aa rfl) rfl ?_
 refine ai.val rfl (cK (cs:=[(.d (.int .i64 1)),(.d (.str z9.1))]) nM rfl (eQ) (dW rfl rfl rfl rfl (dW rfl rfl rfl rfl rfl))) rfl ?_
 refine ai.less (Less.agg' (d:=aM (Seg.mk 1 z9.1)) (aQ.eq rfl (aQ.eq rfl .nil)) ((Seg.eq _).trans rfl)) ?_
 refine ai.store H4 (i:=0) rfl rfl rfl rfl (Seg.dX _) rfl gN rfl pE rfl rfl rfl (fun S17 H18=>?_)
 refine ai.nil ?_
 have hr:=Option.some.inj h
 subst hr
 exact aj.ret ⟨_,ic H18 (i:=0) rfl rfl rfl (iW pO gN rfl),rfl,eF (au.mO (d:=aM (Seg.mk 1 z9.1)) (aQ.eq rfl (aQ.eq rfl .nil)) ((Seg.eq _).trans rfl))⟩
set_option maxRecDepth 20000 in
set_option maxHeartbeats 4000000 in
theorem jV (n:Nat) (a1:Str) (r:((List Seg) × Bool)) (h:iq n a1=some r):aY R cfg.P 20 [(.str a1)] (.tup [.d (.sl ((r.1).map aM) false),.d (.bool r.2)]):=by
 unfold iq at h
 refine aY.of_wp E.obj.toObjOk (C:=cfg) Tryd.func20 rfl nm20 rfl ?_
 have H0:Has ax ax []:=Has.pure
 refine aj.seq ?_
 refine aj.region E.obj rfl ?_
 refine ai.val rfl (ah rfl) rfl ?_
 refine ai.val rfl (ah rfl) rfl ?_
 refine ai.nil ?_
 refine aj.seq ?_
 refine aj.seq ?_
 refine aj.region E.obj rfl ?_
 refine ai.val rfl (aa rfl) rfl ?_
 refine ai.val rfl (ak rfl rfl je) rfl ?_
 refine ai.nil ?_
 refine aj.cond rfl (fun hb2=>?_) (fun hb2=>?_)
 ·
  replace h:=bL hb2 h
  refine aj.seq ?_
  refine aj.region E.obj rfl ?_
  refine ai.val rfl (ah rfl) rfl ?_
  refine ai.val rfl (ah rfl) rfl ?_
  refine ai.nil ?_
  have hr:=Option.some.inj h
  subst hr
  exact aj.ret ⟨_,rfl,rfl,gI (vs:=[(.d .bK),(.d (.bool true))]) (ds:=[(.sl (([]).map aM) false),(.bool true)]) (au.fF rfl (.bK false) (au.eq .nil))⟩
 replace h:=bN hb2 h
 refine aj.skip ?_
 refine aj.seq ?_
 refine aj.region E.obj rfl ?_
 refine ai.val rfl (aa rfl) rfl ?_
 obtain ⟨z3,hzz3,h⟩:=bind_some h
 refine ai.ret rfl (aA rfl rfl) (gF E _ _ _ _ hzz3 _ _ (au.eq (au.eq .nil))) rfl ?_
 refine ai.val rfl (aa rfl) rfl ?_
 refine ai.val rfl (aC rfl rfl) rfl ?_
 refine ai.val rfl (aC rfl rfl) rfl ?_
 refine ai.val rfl (ah rfl) rfl ?_
 refine ai.val rfl (ah rfl) rfl ?_
 refine ai.nil ?_
 refine aj.seq ?_
 refine aj.seq ?_
 refine aj.region E.obj rfl ?_
 refine ai.val rfl (aa rfl) rfl ?_
 refine ai.val rfl (bu rfl) rfl ?_
 refine ai.nil ?_
 refine aj.cond rfl (fun hb4=>?_) (fun hb4=>?_)
 ·
  replace h:=bL hb4 h
  refine aj.seq ?_
  refine aj.region E.obj rfl ?_
  refine ai.val rfl (ah rfl) rfl ?_
  refine ai.val rfl (ah rfl) rfl ?_
  refine ai.nil ?_
  have hr:=Option.some.inj h
  subst hr
  exact aj.ret ⟨_,rfl,rfl,gI (vs:=[(.d .bK),(.d (.bool false))]) (ds:=[(.sl (([]).map aM) false),(.bool false)]) (au.fF rfl (.bK false) (au.eq .nil))⟩
 replace h:=bN hb4 h
 refine aj.skip ?_
 refine aj.seq ?_
 refine aj.region E.obj rfl ?_
 refine ai.val rfl (ah rfl) rfl ?_
 refine ai.nil ?_
 refine aj.seq ?_
 refine aj.seq ?_
 refine aj.region E.obj rfl ?_
 refine ai.val rfl (aa rfl) rfl ?_
 obtain ⟨z5,hzz5,h⟩:=bind_some h
 refine ai.ret rfl (aA rfl rfl) (E.strings_Split_ok _ _ _ _ hzz5 _ _ (au.eq (au.eq .nil))) rfl ?_
 refine ai.val rfl (aR rfl mr) rfl ?_
 refine ai.val rfl (aa rfl) rfl ?_
 refine ai.nil ?_
 refine aj.block ?_
 have H29:=H0.vz
 refine lZ.start (B:=ax) (α:=(List Seg) × AV × Int) (fun k a=>dF n z5 k a.1 a.2.2=some r) (fun a=>[(6,a.2.1),(19,(.d (.sl ((z5).map D.str) false))),(20,(.d (.int .i64 ((z5).length:Int)))),(21,(.d (.int .i64 a.2.2)))]) (fun a=>[.grow a.2.1 ((a.1).map aM)]) ?_ ?_ n ⟨⟨[],(.d .bK),0⟩,_,_,ax,.refl _ _,.refl _,(ae.r rfl (ae.r rfl (ae.r rfl (ae.r rfl ae.nil)))),H29.sl [0] rfl rfl,h⟩
 ·
  intro a h; simp [dF] at h
 intro k18 a S13 H14 h
 obtain ⟨x15,v16,x17⟩:=a
 replace h:dF n z5 (k18 + 1) x15 x17=some r:=h
 replace H14:Has ax S13 [.grow v16 ((x15).map aM)]:=H14
 unfold dF at h
 refine aj.seq ?_
 refine aj.region E.obj rfl ?_
 refine ai.val rfl (ak rfl rfl bV) rfl ?_
 refine ai.nil ?_
 refine aj.seq ?_
 refine aj.cond rfl (fun hb19=>?_) (fun hb19=>?_)
 ·
  replace h:=bL hb19 h
  refine aj.skip ?_
  refine aj.seq ?_
  refine aj.block ?_
  refine aj.seq ?_
  refine aj.region E.obj rfl ?_
  obtain ⟨z20,hzz20,h⟩:=bind_some h
  refine ai.val rfl (bF rfl rfl (bU (enc:=D.str) hzz20 fV xO (((fun _=>rfl) _).trans jy.symm))) rfl ?_
  refine ai.val rfl (aT rfl (cz kK rfl)) rfl ?_
  refine ai.val rfl (ah rfl) rfl ?_
  refine ai.nil ?_
  refine aj.seq ?_
  refine aj.seq ?_
  refine aj.region E.obj rfl ?_
  refine ai.val rfl (aa rfl) rfl ?_
  refine ai.val rfl (uM H14 (i:=0) rfl rfl wP) rfl ?_
  refine ai.val rfl (ak rfl rfl dH) rfl ?_
  refine ai.nil ?_
  refine aj.cond rfl (fun hb21=>?_) (fun hb21=>?_)
  ·
   replace h:=bL hb21 h
   refine aj.seq ?_
   refine aj.region E.obj rfl ?_
   refine ai.val rfl (ah rfl) rfl ?_
   refine ai.val rfl (ah rfl) rfl ?_
   refine ai.nil ?_
   have hr:=Option.some.inj h
   subst hr
   exact aj.ret ⟨_,rfl,rfl,gI (vs:=[(.d .bK),(.d (.bool false))]) (ds:=[(.sl (([]).map aM) false),(.bool false)]) (au.fF rfl (.bK false) (au.eq .nil))⟩
  replace h:=bN hb21 h
  refine aj.skip ?_
  refine aj.region E.obj rfl ?_
  refine ai.val rfl (aa rfl) rfl ?_
  refine ai.val rfl (aa rfl) rfl ?_
  obtain ⟨z22,hzz22,h⟩:=bind_some h
  refine ai.ret rfl (aA rfl rfl) (oz E _ _ _ hzz22 _ _ (au.eq .nil)) rfl ?_
  refine ai.val rfl (aL (vs:=[(.d (aM z22))]) (ds:=[(aM z22)]) zb qM pO nM gN rfl (by decide) (.cons rfl (Seg.len _) .nil) rfl (by intro d hd; simp only [List.mem_cons,List.not_mem_nil,or_false] at hd; rcases hd with rfl <;> exact Seg.agg _) rfl) rfl ?_
  obtain ⟨z23,hzz23,h⟩:=bind_some h
  refine ai.append (xs:=(x15).map aM) (ys:=([z22]).map aM) (zs:=(z23).map aM) H14 rfl rfl rfl (i:=0) rfl rfl zb Ca qM (cu hzz23) BN rfl (aN (enc:=aM) (fun z=>(Seg.len z).trans gN.symm) _) (aN (enc:=aM) (fun z=>(Seg.len z).trans gN.symm) _) Cm rfl (eZ hzz23) (fun v24 S25 H26=>?_)
  refine ai.val rfl (ah rfl) rfl ?_
  refine ai.nil ?_
  refine aj.region E.obj rfl ?_
  refine ai.val rfl (ak rfl rfl bY) rfl ?_
  refine ai.val rfl (aa rfl) rfl ?_
  refine ai.nil ?_
  exact ⟨⟨z23,v24,(IntKind.wrap .i64 (x17 + 1))⟩,_,_,S25,.refl _ _,.refl _,(ae.r rfl (ae.r rfl (ae.r rfl (ae.r rfl ae.nil)))),H26.sl [0] rfl rfl,h⟩
 replace h:=bN hb19 h
 refine aj.exit ?_
 refine aj.seq ?_
 refine aj.seq ?_
 refine aj.region E.obj rfl ?_
 refine ai.val rfl (aa rfl) rfl ?_
 obtain ⟨z27,hzz27,h⟩:=bind_some h
 refine ai.ret rfl (aA rfl rfl) (gT E _ _ _ hzz27 _ _ (au.grow H14 (i:=0) rfl .nil)) rfl ?_
 refine ai.val rfl (bu rfl) rfl ?_
 refine ai.nil ?_
 refine aj.cond rfl (fun hb28=>?_) (fun hb28=>?_)
 ·
  replace h:=bL hb28 h
  refine aj.seq ?_
  refine aj.region E.obj rfl ?_
  refine ai.val rfl (ah rfl) rfl ?_
  refine ai.val rfl (ah rfl) rfl ?_
  refine ai.nil ?_
  have hr:=Option.some.inj h
  subst hr
  exact aj.ret ⟨_,rfl,rfl,gI (vs:=[(.d .bK),(.d (.bool false))]) (ds:=[(.sl (([]).map aM) false),(.bool false)]) (au.fF rfl (.bK false) (au.eq .nil))⟩
 replace h:=bN hb28 h
 refine aj.skip ?_
 refine aj.seq ?_
 refine aj.region E.obj rfl ?_
 refine ai.val rfl (aa rfl) rfl ?_
 refine ai.val rfl (ah rfl) rfl ?_
 refine ai.val rfl (ah rfl) rfl ?_
 refine ai.nil ?_
 have hr:=Option.some.inj h
 subst hr
 exact aj.ret ⟨_,rfl,rfl,gI (vs:=[v16,(.d (.bool true))]) (ds:=[(.sl ((x15).map aM) false),(.bool true)]) (au.grow H14 (i:=0) rfl (au.eq .nil))⟩
set_option maxRecDepth 20000 in
set_option maxHeartbeats 4000000 in
theorem jU (n:Nat)  (r:Bool) (h:di n  = some r):aY R cfg.P 16 [] (.d (.bool r)):=by
 unfold di at h
 refine aY.of_wp E.obj.toObjOk (C:=cfg) Tryd.func16 rfl DR rfl ?_
 have H0:Has ax ax []:=Has.pure
 refine aj.seq ?_
 refine aj.region E.obj rfl ?_
 refine ai.val rfl (ah rfl) rfl ?_
 refine ai.nil ?_
 refine aj.seq ?_
 refine aj.region E.obj rfl ?_
 obtain ⟨z1,hzz1,h⟩:=bind_some h
 refine ai.ret rfl (aA rfl rfl) (jV E _ _ _ hzz1 _ _ (au.eq .nil)) rfl ?_
 refine ai.val rfl (aa rfl) rfl ?_
 refine ai.val rfl (aC rfl rfl) rfl ?_
 refine ai.val rfl (aC rfl rfl) rfl ?_
 refine ai.val rfl (ah rfl) rfl ?_
 refine ai.val rfl (ah rfl) rfl ?_
 refine ai.nil ?_
 refine aj.seq ?_
 refine aj.region E.obj rfl ?_
 refine ai.val rfl (aa rfl) rfl ?_
 refine ai.val rfl (aL (vs:=[(.d (.str [97])),(.d (.str [55])),(.d (.str [120,32,121])),(.d (.str [122]))]) (ds:=[(.str [97]),(.str [55]),(.str [120,32,121]),(.str [122])]) jY fV kK za jy rfl (by decide) (.cons rfl rfl (.cons rfl rfl (.cons rfl rfl (.cons rfl rfl .nil)))) rfl (by intro d hd; simp only [List.mem_cons,List.not_mem_nil,or_false] at hd; rcases hd with rfl | rfl | rfl | rfl <;> rfl) rfl) rfl ?_
 obtain ⟨z2,hzz2,h⟩:=bind_some h
 refine ai.ret rfl (aA rfl rfl) (gW E _ _ _ _ hzz2 _ _ (au.eq (au.fF rfl (.l5 _ _) .nil))) rfl ?_
 refine ai.val rfl (aa rfl) rfl ?_
 refine ai.val rfl (aC rfl rfl) rfl ?_
 refine ai.val rfl (aC rfl rfl) rfl ?_
 refine ai.val rfl (ah rfl) rfl ?_
 refine ai.val rfl (ah rfl) rfl ?_
 refine ai.nil ?_
 refine aj.seq ?_
 refine aj.region E.obj rfl ?_
 refine ai.val rfl (aa rfl) rfl ?_
 refine ai.val rfl (cK (cs:=[(.d (.str [114,101,115,116])),(.d (.str [120,37,50,48,121,47,122]))]) j4 rfl (dz) (dW rfl rfl rfl rfl (dW rfl rfl rfl rfl rfl))) rfl ?_
 refine ai.less (Less.agg' (d:=av (aG.mk [114,101,115,116] [120,37,50,48,121,47,122])) (aQ.eq rfl (aQ.eq rfl .nil)) ((aG.eq _).trans rfl)) ?_
 refine ai.val rfl (cK (cs:=[(.d (.str [105,100])),(.d (.str [55]))]) j4 rfl (dz) (dW rfl rfl rfl rfl (dW rfl rfl rfl rfl rfl))) rfl ?_
 refine ai.less (Less.agg' (d:=av (aG.mk [105,100] [55])) (aQ.eq rfl (aQ.eq rfl .nil)) ((aG.eq _).trans rfl)) ?_
 refine ai.val rfl (aL (vs:=[(.d (av (aG.mk [114,101,115,116] [120,37,50,48,121,47,122]))),(.d (av (aG.mk [105,100] [55])))]) (ds:=[(av (aG.mk [114,101,115,116] [120,37,50,48,121,47,122])),(av (aG.mk [105,100] [55]))]) kJ iB lT j4 eO rfl (by decide) (.cons rfl (aG.len _) (.cons rfl (aG.len _) .nil)) rfl (by intro d hd; simp only [List.mem_cons,List.not_mem_nil,or_false] at hd; rcases hd with rfl | rfl <;> exact aG.agg _) rfl) rfl ?_
 obtain ⟨z3,hzz3,h⟩:=bind_some h
 refine ai.ret rfl (aA rfl rfl) (eH E _ _ _ _ hzz3 _ _ (au.eq (au.fF rfl (.l5 _ _) .nil))) rfl ?_
 refine ai.val rfl (aa rfl) rfl ?_
 refine ai.val rfl (aC rfl rfl) rfl ?_
 refine ai.val rfl (aC rfl rfl) rfl ?_
 refine ai.val rfl (ah rfl) rfl ?_
 refine ai.val rfl (ah rfl) rfl ?_
 refine ai.nil ?_
 refine aj.seq ?_
 refine aj.region E.obj rfl ?_
 refine ai.val rfl (aa rfl) rfl ?_
 refine ai.val rfl (cK (cs:=[(.d (.str [105,100])),(.d (.str []))]) j4 rfl (dz) (dW rfl rfl rfl rfl rfl)) rfl ?_
 refine ai.less (Less.agg' (d:=av (aG.mk [105,100] [])) (aQ.eq rfl (aQ.eq rfl .nil)) ((aG.eq _).trans rfl)) ?_
 refine ai.val rfl (cK (cs:=[(.d (.str [114,101,115,116])),(.d (.str []))]) j4 rfl (dz) (dW rfl rfl rfl rfl rfl)) rfl ?_
 refine ai.less (Less.agg' (d:=av (aG.mk [114,101,115,116] [])) (aQ.eq rfl (aQ.eq rfl .nil)) ((aG.eq _).trans rfl)) ?_
 refine ai.val rfl (aL (vs:=[(.d (av (aG.mk [105,100] []))),(.d (av (aG.mk [114,101,115,116] [])))]) (ds:=[(av (aG.mk [105,100] [])),(av (aG.mk [114,101,115,116] []))]) kJ iB lT j4 eO rfl (by decide) (.cons rfl (aG.len _) (.cons rfl (aG.len _) .nil)) rfl (by intro d hd; simp only [List.mem_cons,List.not_mem_nil,or_false] at hd; rcases hd with rfl | rfl <;> exact aG.agg _) rfl) rfl ?_
 obtain ⟨z4,hzz4,h⟩:=bind_some h
 refine ai.ret rfl (aA rfl rfl) (eH E _ _ _ _ hzz4 _ _ (au.eq (au.fF rfl (.l5 _ _) .nil))) rfl ?_
 refine ai.val rfl (aa rfl) rfl ?_
 refine ai.val rfl (aC rfl rfl) rfl ?_
 refine ai.val rfl (aC rfl rfl) rfl ?_
 refine ai.val rfl (ah rfl) rfl ?_
 refine ai.val rfl (ah rfl) rfl ?_
 refine ai.nil ?_
 refine aj.seq ?_
 refine aj.region E.obj rfl ?_
 obtain ⟨z5,hzz5,h⟩:=bind_some h
 refine ai.ret rfl (aA rfl rfl) (jV E _ _ _ hzz5 _ _ (au.eq .nil)) rfl ?_
 refine ai.val rfl (aa rfl) rfl ?_
 refine ai.val rfl (aC rfl rfl) rfl ?_
 refine ai.val rfl (aC rfl rfl) rfl ?_
 refine ai.val rfl (ah rfl) rfl ?_
 refine ai.val rfl (ah rfl) rfl ?_
 refine ai.nil ?_
 refine aj.seq ?_
 refine aj.region E.obj rfl ?_
 refine ai.val rfl (aa rfl) rfl ?_
 refine ai.val rfl (aa rfl) rfl ?_
 refine ai.bP 2 44 (.d (.bool (z1.2 && z2.2))) ?_ ?_
 ·
  rcases Bool.eq_false_or_eq_true (z1.2) with hB6 | hB6
  ·
   refine ai.bool hB6 ?_
   refine ai.val rfl (aa rfl) rfl ?_
   refine ai.val rfl (ay (b:=true) rfl rfl) rfl ?_
   exact ai.nil ⟨_,rfl,(ae.put (ae.push rfl (ae.put (.refl _) (Less.eq (by rw [hB6])))) (Less.eq (by rw [hB6]; rw [Bool.true_and])))⟩
  refine ai.bool hB6 ?_
  refine ai.no rfl rfl ?_
  refine ai.val rfl (ay (b:=false) rfl rfl) rfl ?_
  exact ai.nil ⟨_,rfl,(ae.put (ae.push rfl (ae.put (.refl _) (Less.eq (by rw [hB6])))) (Less.eq (by rw [hB6]; rw [Bool.false_and])))⟩
 refine ai.val rfl (aa rfl) rfl ?_
 obtain ⟨z8,hzz8,h⟩:=bind_some h
 refine ai.bP 6 51 (.d (.bool z8)) ?_ ?_
 ·
  rcases Bool.eq_false_or_eq_true ((z1.2 && z2.2)) with hB7 | hB7
  ·
   refine ai.bool hB7 ?_
   replace hzz8:=bL hB7 hzz8
   refine ai.val rfl (aa rfl) rfl ?_
   refine ai.val rfl (cK (cs:=[(.d (.str [105,100])),(.d (.str [55]))]) j4 rfl (dz) (dW rfl rfl rfl rfl (dW rfl rfl rfl rfl rfl))) rfl ?_
   refine ai.less (Less.agg' (d:=av (aG.mk [105,100] [55])) (aQ.eq rfl (aQ.eq rfl .nil)) ((aG.eq _).trans rfl)) ?_
   refine ai.val rfl (cK (cs:=[(.d (.str [114,101,115,116])),(.d (.str [120,37,50,48,121,47,122]))]) j4 rfl (dz) (dW rfl rfl rfl rfl (dW rfl rfl rfl rfl rfl))) rfl ?_
   refine ai.less (Less.agg' (d:=av (aG.mk [114,101,115,116] [120,37,50,48,121,47,122])) (aQ.eq rfl (aQ.eq rfl .nil)) ((aG.eq _).trans rfl)) ?_
   refine ai.val rfl (aL (vs:=[(.d (av (aG.mk [105,100] [55]))),(.d (av (aG.mk [114,101,115,116] [120,37,50,48,121,47,122])))]) (ds:=[(av (aG.mk [105,100] [55])),(av (aG.mk [114,101,115,116] [120,37,50,48,121,47,122]))]) kJ iB lT j4 eO rfl (by decide) (.cons rfl (aG.len _) (.cons rfl (aG.len _) .nil)) rfl (by intro d hd; simp only [List.mem_cons,List.not_mem_nil,or_false] at hd; rcases hd with rfl | rfl <;> exact aG.agg _) rfl) rfl ?_
   obtain ⟨z9,hzz9,hzz8⟩:=bind_some hzz8
   refine ai.ret rfl (aA rfl rfl) (jr E _ _ _ _ hzz9 _ _ (au.eq (au.fF rfl (.l5 _ _) .nil))) rfl ?_
   refine ai.val rfl (ay (b:=true) rfl rfl) rfl ?_
   cases hzz8
   exact ai.nil ⟨_,rfl,(ae.put (ae.push rfl (ae.push rfl (ae.push rfl (ae.push rfl (ae.push rfl (ae.put (.refl _) (Less.eq (by rw [hB7])))))))) (.refl _))⟩
  refine ai.bool hB7 ?_
  refine ai.no rfl rfl ?_
  refine ai.no rfl rfl ?_
  refine ai.no rfl rfl ?_
  refine ai.no rfl rfl ?_
  refine ai.no rfl rfl ?_
  refine ai.val rfl (ay (b:=false) rfl rfl) rfl ?_
  replace hzz8:=bN hB7 hzz8
  cases hzz8
  exact ai.nil ⟨_,rfl,(ae.put (ae.push rfl (ae.push rfl (ae.push rfl (ae.push rfl (ae.push rfl (ae.put (.refl _) (Less.eq (by rw [hB7])))))))) (.refl _))⟩
 refine ai.val rfl (aa rfl) rfl ?_
 refine ai.bP 2 54 (.d (.bool (z8 && z3.2))) ?_ ?_
 ·
  rcases Bool.eq_false_or_eq_true (z8) with hB10 | hB10
  ·
   refine ai.bool hB10 ?_
   refine ai.val rfl (aa rfl) rfl ?_
   refine ai.val rfl (ay (b:=true) rfl rfl) rfl ?_
   exact ai.nil ⟨_,rfl,(ae.put (ae.push rfl (ae.put (.refl _) (Less.eq (by rw [hB10])))) (Less.eq (by rw [hB10]; rw [Bool.true_and])))⟩
  refine ai.bool hB10 ?_
  refine ai.no rfl rfl ?_
  refine ai.val rfl (ay (b:=false) rfl rfl) rfl ?_
  exact ai.nil ⟨_,rfl,(ae.put (ae.push rfl (ae.put (.refl _) (Less.eq (by rw [hB10])))) (Less.eq (by rw [hB10]; rw [Bool.false_and])))⟩
 refine ai.val rfl (aa rfl) rfl ?_
 obtain ⟨z12,hzz12,h⟩:=bind_some h
 refine ai.bP 4 59 (.d (.bool z12)) ?_ ?_
 ·
  rcases Bool.eq_false_or_eq_true ((z8 && z3.2)) with hB11 | hB11
  ·
   refine ai.bool hB11 ?_
   replace hzz12:=bL hB11 hzz12
   refine ai.val rfl (aa rfl) rfl ?_
   refine ai.val rfl (aL (vs:=[(.d (.str [97])),(.d (.str [55])),(.d (.str [120,32,121])),(.d (.str [122]))]) (ds:=[(.str [97]),(.str [55]),(.str [120,32,121]),(.str [122])]) jY fV kK za jy rfl (by decide) (.cons rfl rfl (.cons rfl rfl (.cons rfl rfl (.cons rfl rfl .nil)))) rfl (by intro d hd; simp only [List.mem_cons,List.not_mem_nil,or_false] at hd; rcases hd with rfl | rfl | rfl | rfl <;> rfl) rfl) rfl ?_
   obtain ⟨z13,hzz13,hzz12⟩:=bind_some hzz12
   refine ai.ret rfl (aA rfl rfl) (eX E _ _ _ _ hzz13 _ _ (au.eq (au.fF rfl (.l5 _ _) .nil))) rfl ?_
   refine ai.val rfl (ay (b:=true) rfl rfl) rfl ?_
   cases hzz12
   exact ai.nil ⟨_,rfl,(ae.put (ae.push rfl (ae.push rfl (ae.push rfl (ae.put (.refl _) (Less.eq (by rw [hB11])))))) (.refl _))⟩
  refine ai.bool hB11 ?_
  refine ai.no rfl rfl ?_
  refine ai.no rfl rfl ?_
  refine ai.no rfl rfl ?_
  refine ai.val rfl (ay (b:=false) rfl rfl) rfl ?_
  replace hzz12:=bN hB11 hzz12
  cases hzz12
  exact ai.nil ⟨_,rfl,(ae.put (ae.push rfl (ae.push rfl (ae.push rfl (ae.put (.refl _) (Less.eq (by rw [hB11])))))) (.refl _))⟩
 refine ai.val rfl (aa rfl) rfl ?_
 refine ai.bP 3 63 (.d (.bool (z12 && (!z4.2)))) ?_ ?_
 ·
  rcases Bool.eq_false_or_eq_true (z12) with hB14 | hB14
  ·
   refine ai.bool hB14 ?_
   refine ai.val rfl (aa rfl) rfl ?_
   refine ai.val rfl (bu rfl) rfl ?_
   refine ai.val rfl (ay (b:=true) rfl rfl) rfl ?_
   exact ai.nil ⟨_,rfl,(ae.put (ae.push rfl (ae.push rfl (ae.put (.refl _) (Less.eq (by rw [hB14]))))) (Less.eq (by rw [hB14]; rw [Bool.true_and])))⟩
  refine ai.bool hB14 ?_
  refine ai.no rfl rfl ?_
  refine ai.no rfl rfl ?_
  refine ai.val rfl (ay (b:=false) rfl rfl) rfl ?_
  exact ai.nil ⟨_,rfl,(ae.put (ae.push rfl (ae.push rfl (ae.put (.refl _) (Less.eq (by rw [hB14]))))) (Less.eq (by rw [hB14]; rw [Bool.false_and])))⟩
 refine ai.val rfl (aa rfl) rfl ?_
 refine ai.bP 3 67 (.d (.bool ((z12 && (!z4.2)) && (!z5.2)))) ?_ ?_
 ·
  rcases Bool.eq_false_or_eq_true ((z12 && (!z4.2))) with hB15 | hB15
  ·
   refine ai.bool hB15 ?_
   refine ai.val rfl (aa rfl) rfl ?_
   refine ai.val rfl (bu rfl) rfl ?_
   refine ai.val rfl (ay (b:=true) rfl rfl) rfl ?_
   exact ai.nil ⟨_,rfl,(ae.put (ae.push rfl (ae.push rfl (ae.put (.refl _) (Less.eq (by rw [hB15]))))) (Less.eq (by rw [hB15]; rw [Bool.true_and])))⟩
  refine ai.bool hB15 ?_
  refine ai.no rfl rfl ?_
  refine ai.no rfl rfl ?_
  refine ai.val rfl (ay (b:=false) rfl rfl) rfl ?_
  exact ai.nil ⟨_,rfl,(ae.put (ae.push rfl (ae.push rfl (ae.put (.refl _) (Less.eq (by rw [hB15]))))) (Less.eq (by rw [hB15]; rw [Bool.false_and])))⟩
 refine ai.val rfl (ah rfl) rfl ?_
 refine ai.nil ?_
 have hr:=Option.some.inj h
 subst hr
 exact aj.ret ⟨_,rfl,rfl,eF (au.eq .nil)⟩
end
end Pr
end Go.Ev

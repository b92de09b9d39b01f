import Derived.Test.YtjlfkpfombdelaaDoorPartB
import Derived.Shelf.Strings.OnBuilder
import Derived.Shelf.Strings.SplitShaped
import Derived.Shelf.Strings.SlTrimAscii
import Derived.Shelf.Small.Strs
import Derived.Shelf.Strings.Cut
import Derived.DataReads
import GoSem.ClaimChange
import Derived.WideShapes
import Derived.ChangeShapes
import Derived.Test.YtjlfkpfombdelaaDoorProg
import Derived.WalkKit
import Derived.ProofKit
import Derived.IntWalk
namespace Go.Ev
noncomputable section
open Go.Shelf Go.RowKit Go.Proofs
set_option linter.unusedVariables false
set_option linter.unusedSimpArgs false
abbrev Prim:=List AV→St→Option (AV × St)
structure gU (R:aW) (P:Program) (f:Nat) (p:Prim):Prop where
 pure:∀ args S v S',p args S=some (v,S')→(iB args).isSome=true→(si v).isSome=true→∀ S2,p args S2=some (v,S2)
 calls:∀ args S v S',p args S=some (v,S')→(∃ fn,P.funcs[f]? = some fn∧fn.body.isSome=true∧fn.name ≠ "runtime.NumGoroutine") ∧
  ∀ cx w (us:List Value),aJ R cx S w→us.length=args.length→(∀ (i:Nat) (x:AV) (u:Value),args[i]? = some x→us[i]? = some u→aA cx S w x u) →
  Calls P f us.toArray w (fun e w'=>∃ cx',aJ R cx' S' w'∧Ext cx S w cx' S' w'∧∃ u,e=.returned u∧aA cx' S' w' v u)
def uS (R:aW) (P:Program):AL Prim→Prop
 | []=>True
 | (f,p) :: l=>gU R P f p∧uS R P l
theorem lV {R:aW} {P:Program}:∀ {l:AL Prim} {f:Nat} {p:Prim},uS R P l→AL.get l f=some p→gU R P f p
 | [],f,p,_,h=>by cases h
 | (k,q) :: l,f,p,hl,h=>by
  rw [AL.dU] at h
  split at h
  ·
   rename_i he
   cases h; subst he; exact hl.1
  ·
   exact lV hl.2 h
def sI (args:List AV) (S:St):Option (AV × St) :=
 match args with
 | [.ptr id 0 0,.d (.int .u8 c)]=>match S.H.get id with
  | some (.obj 1 (.str bs))=>if 0 ≤ c∧c < 256∧bs.length + 1 ≤ bound then some (.d .nili,{ S with H:=S.H.set id (.obj 1 (.str (bs ++ [UInt8.ofNat c.toNat]))) }) else none
  | _=>none
 | _=>none
def qW (args:List AV) (S:St):Option (AV × St) :=
 match args with
 | [.ptr id 0 0,.d (.str s)]=>match S.H.get id with
  | some (.obj 1 (.str bs))=>if bs.length + s.length ≤ bound then some (.tup [.d (.int .i64 (s.length:Nat)),.d .nili],{ S with H:=S.H.set id (.obj 1 (.str (bs ++ s))) }) else none
  | _=>none
 | _=>none
def rR (args:List AV) (S:St):Option (AV × St) :=
 match args with
 | [.ptr id 0 0]=>match S.H.get id with
  | some (.obj 1 (.str bs))=>some (.d (.str bs),{ S with H:=S.H.del id })
  | _=>none
 | _=>none
theorem uE {T e:Nat} {G:World→(Nat→Nat→Prop)→Prop} {cx:Cx} {S:St} {w:World} (hS:aJ (q8 T e G) cx S w) {id:Nat} {l:List UInt8} (hk:S.H.get id=some (.obj 1 (.str l))) {u:Value} (hu:aA cx S w (.ptr id 0 0) u) :
  u=.pointer (some ⟨cx.bm id,0,none⟩)∧∃ p v,oG T e (cx.bm id) p v (Lib.byteCells l) w∧∀ c,cx.fp id c↔(c=cx.bm id∨v.ownBlock=some c):=by
 obtain ⟨⟨_,l',p,v,hx,h1,h2⟩ | ⟨h3,_⟩,_⟩:=hS.objs id _ _ hk
 rotate_left
 ·
  cases h3
 cases hx
 cases hu with
 | ptr _ _ _ b hn hp =>
  have:=hp (by simp [cur,hk,pG])
  subst this
  exact ⟨rfl,p,v,h1,h2⟩
theorem Bn {G:World→(Nat→Nat→Prop)→Prop} (hG:mf G) {P:Program} {ρ:Ren} (L:Lays.n167 P ρ) (X:Builder.Extra P ρ):gU (q8 (ρ.t 72) (ρ.t 5) G) P (ρ.f 167) sI where
 pure:=fun args S v S' h h1=>by
  exfalso
  unfold sI at h
  split at h
  ·
   simp [iB,sM] at h1
  ·
   cases h
 calls:=fun args S v S' h=>⟨⟨_,L.f167,rfl,by show ¬ ("(*strings.Builder).WriteByte" = "runtime.NumGoroutine"); decide⟩,fun cx w us hS hl hr=>by
  unfold sI at h
  split at h
  ·
   rename_i id c
   split at h
   ·
    rename_i bs hk
    split at h
    ·
     rename_i hc
     simp only [Option.some.injEq,Prod.mk.injEq] at h
     obtain ⟨rfl,rfl⟩:=h
     match us,hl with
     | [u0,u1],_ =>
     obtain ⟨rfl,p,v,h1,h2⟩:=uE hS hk (hr 0 _ _ rfl rfl)
     have r1:=hr 1 _ _ rfl rfl
     cases r1 with
     | d _ _ r1 =>
     have a1:=r1.val rfl; cases a1
     refine (tC L X h1 c (by rw [Lib.byteCells_length]; exact hc.2.2)).mono (fun e w' hp=>?_)
     obtain ⟨rfl,hp⟩:=hp
     have hb:Lib.byteCells bs ++ [.int .u8 c]=Lib.byteCells (bs ++ [UInt8.ofNat c.toNat]):=by
      have:((UInt8.ofNat c.toNat).toNat:Int)=c:=by
       rw [UInt8.toNat_ofNat']
       have h0:=hc.1; have h1:=hc.2.1
       omega
      simp only [Lib.byteCells,List.map_append,List.map_cons,List.map_nil,this]
     rw [hb] at hp
     obtain ⟨cx',k1,k2⟩:=tJ hG hS hk h2 hp
     exact ⟨cx',k1,k2,_,rfl,.d _ _ (aM.of_cell .nili rfl)⟩
    ·
     cases h
   ·
    cases h
  ·
   cases h⟩
theorem Bo {G:World→(Nat→Nat→Prop)→Prop} (hG:mf G) {P:Program} {ρ:Ren} (L:Lays.n166 P ρ) (X:Builder.Extra P ρ):gU (q8 (ρ.t 72) (ρ.t 5) G) P (ρ.f 166) qW where
 pure:=fun args S v S' h h1=>by
  exfalso
  unfold qW at h
  split at h
  ·
   simp [iB,sM] at h1
  ·
   cases h
 calls:=fun args S v S' h=>⟨⟨_,L.f166,rfl,by show ¬ ("(*strings.Builder).WriteString" = "runtime.NumGoroutine"); decide⟩,fun cx w us hS hl hr=>by
  unfold qW at h
  split at h
  ·
   rename_i id s
   split at h
   ·
    rename_i bs hk
    split at h
    ·
     rename_i hc
     simp only [Option.some.injEq,Prod.mk.injEq] at h
     obtain ⟨rfl,rfl⟩:=h
     match us,hl with
     | [u0,u1],_ =>
     obtain ⟨rfl,p,v,h1,h2⟩:=uE hS hk (hr 0 _ _ rfl rfl)
     have r1:=hr 1 _ _ rfl rfl
     cases r1 with
     | d _ _ r1 =>
     have a1:=r1.val rfl; cases a1
     rename_i s xx
     refine (qm L X h1 s (by rw [Lib.byteCells_length]; simpa using hc)).mono (fun e w' hp=>?_)
     obtain ⟨rfl,hp⟩:=hp
     have hb:Lib.byteCells bs ++ Lib.strCells s=Lib.byteCells (bs ++ s.data.toList):=by
      simp [Lib.byteCells,Lib.strCells]
     rw [hb] at hp
     obtain ⟨cx',k1,k2⟩:=tJ hG hS hk h2 hp
     refine ⟨cx',k1,k2,_,rfl,.tup _ [.int .i64 (s.size:Nat),.nilIface] rfl (fun i x v hx hv=>?_)⟩
     match i,hx,hv with
     | 0,hx,hv =>
      simp at hx hv; subst hx; subst hv
      exact .d _ _ (aM.of_cell (.int _ _) rfl)
     | 1,hx,hv =>
      simp at hx hv; subst hx; subst hv
      exact .d _ _ (aM.of_cell .nili rfl)
    ·
     cases h
   ·
    cases h
  ·
   cases h⟩
theorem Bq {G:World→(Nat→Nat→Prop)→Prop} (hG:mf G) {P:Program} {ρ:Ren} (L:Lays.n169 P ρ) (X:Builder.Extra P ρ):gU (q8 (ρ.t 72) (ρ.t 5) G) P (ρ.f 169) rR where
 pure:=fun args S v S' h h1=>by
  exfalso
  unfold rR at h
  split at h
  ·
   simp [iB,sM] at h1
  ·
   cases h
 calls:=fun args S v S' h=>⟨⟨_,L.f169,rfl,by show ¬ ("(*strings.Builder).String" = "runtime.NumGoroutine"); decide⟩,fun cx w us hS hl hr=>by
  unfold rR at h
  split at h
  ·
   rename_i id
   split at h
   ·
    rename_i bs hk
    simp only [Option.some.injEq,Prod.mk.injEq] at h
    obtain ⟨rfl,rfl⟩:=h
    match us,hl with
    | [u0],_ =>
    obtain ⟨rfl,p,v,h1,h2⟩:=uE hS hk (hr 0 _ _ rfl rfl)
    refine (xJ L X h1).mono (fun e w' hp=>?_)
    obtain ⟨rfl,hp⟩:=hp
    obtain ⟨k1,k2⟩:=zo hG hS hk h2 hp
    refine ⟨cx,k1,k2,_,rfl,.d _ _ (aM.of_cell ?_ rfl)⟩
    have:=dZ.str (w:=w') (fr:=cx.fr) ⟨bs.toArray⟩
    simpa using this
   ·
    cases h
  ·
   cases h⟩
end
end Go.Ev

namespace Go.Ev
noncomputable section
open Go.Shelf Go.RowKit Go.Proofs
set_option linter.unusedVariables false
set_option linter.unusedSimpArgs false
def Leaves (w:World) (fr:Nat→Nat→Prop) (v:AV) (e:Ending) (w':World):Prop :=
 Below w.heap.size w w'∧∃ u,e=.returned u∧∀ cx S,cx.fr=fr→aA cx S w' v u
def gM (spec:List D→Option AV):Prim:=fun args S=>match iB args with
 | some ds=>(spec ds).map fun v=>(v,S)
 | none=>none
theorem jO {R:aW} (hR:ObjOk R) {P:Program} {f:Nat} {spec:List D→Option AV} (hd:∀ ds v,spec ds=some v→(si v).isSome=true)
  (hb:∃ fn,P.funcs[f]? = some fn∧fn.body.isSome=true∧fn.name ≠ "runtime.NumGoroutine")
  (hc:∀ ds v,spec ds=some v→∀ (w:World) (fr:Nat→Nat→Prop) (us:List Value),R.G w fr→(∀ b o,fr b o→b < w.heap.size)→us.length=ds.length→(∀ (i:Nat) (y:D) (u:Value),ds[i]? = some y→us[i]? = some u→aM w fr y u) →
   Calls P f us.toArray w (Leaves w fr v)):gU R P f (gM spec) where
 pure:=fun args S v S' h _ _ S2=>by
  unfold gM at h ⊢
  split at h
  ·
   rename_i ds hds
   simp only [Option.map_eq_some_iff,Prod.mk.injEq] at h
   obtain ⟨a,h1,rfl,_⟩:=h
   simp [hds,h1]
  ·
   cases h
 calls:=fun args S v S' h=>⟨hb,fun cx w us hS hl hr=>by
  unfold gM at h
  split at h
  ·
   rename_i ds hds
   simp only [Option.map_eq_some_iff,Prod.mk.injEq] at h
   obtain ⟨a,h1,rfl,rfl⟩:=h
   obtain ⟨d1,d2⟩:=oU hds
   refine (hc ds a h1 w cx.fr us hS.stat hS.lt (by rw [hl,d1]) (fun i y u hy hu=>?_)).mono (fun e w' hp=>?_)
   ·
    have hlt:i < args.length:=by rw [← d1]; exact (List.getElem?_eq_some_iff.1 hy).1
    have ha:=List.getElem?_eq_getElem hlt
    exact iI (d2 i _ y ha hy) (hr i _ u ha hu)
   ·
    obtain ⟨hbl,u,rfl,hv⟩:=hp
    have e:Ext cx S w cx S w':=Ext.old hS hbl.size (fun b hb=>hbl.block b hb) hbl.os hbl.tape hbl.output
    exact ⟨cx,aJ.old hR hS hbl.size (fun b hb=>hbl.block b hb) e,e,u,rfl,hv cx S rfl⟩
  ·
   cases h⟩
theorem qH (w:World) (fr:Nat→Nat→Prop) (l:List UInt8):aM w fr (.str l) (.string ⟨l.toArray⟩):=by
 have:=dZ.str (w:=w) (fr:=fr) ⟨l.toArray⟩
 exact aM.of_cell (by simpa using this) rfl
theorem jK {w:World} {fr:Nat→Nat→Prop} {l:List UInt8} {u:Value} (h:aM w fr (.str l) u):u=.string ⟨l.toArray⟩:=by
 have a:=h.val rfl
 cases a
 simp
def rU:List D→Option AV
 | [.str s,.str c]=>if s.length ≤ bound∧c.length ≤ 1000∧(c.all fun b=>decide (b.toNat < 128))=true then some (.d (.str (Lib.trimS s c))) else none
 | _=>none
theorem Ap {R:aW} (hR:ObjOk R) {P:Program} {ρ:Ren} (L:Lays.n160 P ρ) (h116:(P.info? (ρ.t 116)).map (fun i=>(i.zero,i.size))=some (some (.agg (Array.replicate 256 (.bool false))),256)) :
  gU R P (ρ.f 160) (gM rU):=by
 refine jO hR (fun ds v h=>?_) ⟨_,L.f160,rfl,by show ¬ ("strings.Trim" = "runtime.NumGoroutine"); decide⟩ (fun ds v h w fr us hG hfr hl hr=>?_)
 ·
  unfold rU at h
  split at h
  ·
   split at h
   ·
    simp only [Option.some.injEq] at h; subst h; rfl
   ·
    cases h
  ·
   cases h
 ·
  unfold rU at h
  split at h
  ·
   rename_i s c
   split at h
   ·
    rename_i hc
    obtain ⟨h1,h2,h3⟩:=hc
    simp only [Option.some.injEq] at h; subst h
    match us,hl with
    | [u0,u1],_ =>
    obtain rfl:=jK (hr 0 _ _ rfl rfl)
    obtain rfl:=jK (hr 1 _ _ rfl rfl)
    refine (Any.strings_Trim_laid L h116 ⟨s.toArray⟩ ⟨c.toArray⟩ w (by simp [ByteArray.size]; unfold bound at h1; omega) (by simp [ByteArray.size]; omega) (by simpa using ascii_of_all h3)).mono (fun e w' hp=>?_)
    obtain ⟨rfl,hb⟩:=hp
    exact ⟨hb,_,rfl,fun cx S _=>.d _ _ (by simpa using qH w' cx.fr (Lib.trimS s c))⟩
   ·
    cases h
  ·
   cases h
def uT:List D→Option AV
 | [.str s,.int .u8 c]=>some (.d (.int .i64 (Lib.indexByte s c.toNat.toUInt8)))
 | _=>none
theorem Az {R:aW} (hR:ObjOk R) {P:Program} {ρ:Ren} (L:Lays.n137 P ρ):gU R P (ρ.f 137) (gM uT):=by
 refine jO hR (fun ds v h=>?_) ⟨_,L.f137,rfl,by show ¬ ("strings.IndexByte" = "runtime.NumGoroutine"); decide⟩ (fun ds v h w fr us hG hfr hl hr=>?_)
 ·
  unfold uT at h
  split at h
  ·
   simp only [Option.some.injEq] at h; subst h; rfl
  ·
   cases h
 ·
  unfold uT at h
  split at h
  ·
   rename_i s c
   simp only [Option.some.injEq] at h; subst h
   match us,hl with
   | [u0,u1],_ =>
   obtain rfl:=jK (hr 0 _ _ rfl rfl)
   have a1:=(hr 1 _ _ rfl rfl).val rfl
   cases a1
   refine (Any.strings_IndexByte L ⟨s.toArray⟩ c w).mono (fun e w' hp=>?_)
   obtain ⟨rfl,rfl⟩:=hp
   exact ⟨Below.refl _ _,_,rfl,fun cx S _=>.d _ _ (aM.of_cell (by simpa using dZ.int (w:=w') (fr:=cx.fr) .i64 (Lib.indexByte s c.toNat.toUInt8)) rfl)⟩
  ·
   cases h
def gz (c:UInt8):List UInt8→List (List UInt8)
 | []=>[[]]
 | b :: l=>if b == c then [] :: gz c l else match gz c l with
  | []=>[[b]]
  | x :: r=>(b :: x) :: r
theorem pU (c:UInt8):∀ (s:List UInt8),c ∉ s→gz c s=[s]
 | [],_=>rfl
 | b :: l,h=>by
  have h1:¬ (b == c)=true:=fun q=>h (by rw [eq_of_beq q]; exact List.mem_cons_self)
  rw [gz,if_neg h1,pU c l (fun q=>h (List.mem_cons_of_mem _ q))]
theorem pV (c:UInt8) (t:List UInt8):∀ (s:List UInt8),c ∉ s→gz c (s ++ c :: t)=s :: gz c t
 | [],_=>by simp [gz]
 | b :: l,h=>by
  have h1:¬ (b == c)=true:=fun q=>h (by rw [eq_of_beq q]; exact List.mem_cons_self)
  rw [List.cons_append,gz,if_neg h1,pV c t l (fun q=>h (List.mem_cons_of_mem _ q))]
theorem occ_one (s:List UInt8) (c:UInt8) (i:Nat):Lib.occAt s [c] i=(s[i]? == some c):=by
 unfold Lib.occAt
 cases h:s.drop i with
 | nil =>
  have:s[i]? = none:=by rw [List.getElem?_eq_none]; have:=congrArg List.length h; simp at this; omega
  rw [this]; rfl
 | cons b l =>
  have:s[i]? = some b:=by have:=congrArg (·[0]?) h; simpa using this
  rw [this]
  simp only [List.isPrefixOf_cons_cons,List.isPrefixOf_nil_left,Bool.and_true]
  by_cases hb:c=b
  ·
   subst hb; simp
  ·
   have h1:(c == b)=false:=by simpa using hb
   have h2:(some b == some c)=false:=by simpa using Ne.symm hb
   rw [h1,h2]
theorem xC (c:UInt8):∀ (n:Nat) (s:List UInt8),s.length ≤ n→Lib.splitK [c] 0 (Lib.count s [c]) s=gz c s:=by
 intro n
 induction n with
 | zero =>
  intro s hs
  have:s=[]:=List.eq_nil_of_length_eq_zero (by omega)
  subst this
  rfl
 | succ n ih =>
  intro s hs
  rcases Lib.index_spec s [c] with ⟨h1,h2⟩ | ⟨i,h1,h2,h3,h4⟩
  ·
   rw [Lib.count_miss h1,Lib.splitK]
   refine (pU c s (fun hm=>?_)).symm
   obtain ⟨j,hj,hjs⟩:=List.getElem_of_mem hm
   have:=h2 j (by omega)
   rw [occ_one,List.getElem?_eq_getElem hj,hjs] at this
   simp at this
  ·
   rw [Lib.count_hit (by simp) h1]
   have hne:¬ (Lib.index s [c] == -1)=true:=fun q=>by have:=beq_iff_eq.1 q; omega
   rw [Nat.add_comm,Lib.splitK,if_neg hne,h1]
   have e1:((i:Int)).toNat=i:=by omega
   rw [e1]
   rw [occ_one] at h3
   have hi:s[i]? = some c:=by simpa using h3
   have hlt:=(List.getElem?_eq_some_iff.1 hi).1
   have hs2:s=s.take i ++ c :: s.drop (i + 1):=by
    have:=List.getElem_cons_drop hlt
    rw [(List.getElem?_eq_some_iff.1 hi).2] at this
    rw [this,List.take_append_drop]
   have hnm:c ∉ s.take i:=fun hm=>by
    obtain ⟨j,hj,hjs⟩:=List.getElem_of_mem hm
    simp at hj
    have:=h4 j (by omega)
    rw [occ_one,List.getElem?_eq_getElem (by omega)] at this
    simp at hjs
    simp [hjs] at this
   conv=>rhs; rw [hs2]
   rw [pV c _ _ hnm]
   simp only [Nat.add_zero,List.length_singleton]
   rw [ih _ (by simp; omega)]
def j6:List D→Option AV
 | [.str s,.str [c]]=>if s.length ≤ 1000000 then some (.d (.sl ((gz c s).map .str) false)) else none
 | _=>none
def zV (g:Nat) (w:World) (fr:Nat→Nat→Prop):Prop:=(∃ m,w.cell? ⟨g,0,none⟩=some (.int .i64 m))∧¬ fr g 0
theorem Av (g:Nat):mf (zV g):=fun w w' fr fr' h hp _=>by
 obtain ⟨⟨m,h1⟩,h2⟩:=h
 obtain ⟨a,b⟩:=hp g 0 _ h2 h1
 exact ⟨⟨m,a⟩,b⟩
theorem zG {w:World} {fr:Nat→Nat→Prop} {xs:List (List UInt8)} {b el:Nat} {arr:Array Value} {fz:Nat × Nat} (hb:w.heap[b]? = some (.cells arr el fz)) (hfr:∀ o,¬ fr b o)
  (ha:arr.toList=xs.map fun l=>Value.string ⟨l.toArray⟩) (hne:xs ≠ []):aM w fr (.sl (xs.map .str) false) (.slice (some ⟨b,0,none⟩) xs.length xs.length):=by
 refine aM.of_cell ?_ rfl
 have:=dZ.sl (w:=w) (fr:=fr) (xs.map .str) false b 0 xs.length 1 (fun i=>[(arr.toList[i]?).getD .nilIface]) (by simpa using hne) (by simp) (fun q=>by cases q) (fun i x hx=>by
  simp only [List.getElem?_map,Option.map_eq_some_iff] at hx
  obtain ⟨a,_,rfl⟩:=hx; rfl) (fun i _=>rfl) (fun i x hx=>by
  simp only [List.getElem?_map,Option.map_eq_some_iff] at hx
  obtain ⟨a,h1,rfl⟩:=hx
  rw [ha,List.getElem?_map,h1]
  exact (qH w fr a).val rfl) (fun i j v hi hv=>by
  cases j with
  | zero =>
   simp only [List.getElem?_cons_zero,Option.some.injEq] at hv
   refine ⟨?_,hfr _⟩
   rw [cell_of hb,Nat.mul_one,Nat.zero_add,Nat.add_zero,← hv]
   have hi':i < arr.toList.length:=by rw [ha]; simpa using hi
   rw [List.getElem?_eq_getElem hi',Option.getD_some,← Array.getElem?_toList,List.getElem?_eq_getElem hi']
  | succ j=>simp at hv)
 simpa using this
theorem yC (c:UInt8) (s:List UInt8):gz c s ≠ []:=by
 cases s with
 | nil=>simp [gz]
 | cons b l =>
  unfold gz
  split
  ·
   simp
  ·
   split <;> simp
theorem Ag {R:aW} (hR:ObjOk R) {P:Program} {ρ:Ren} (L:Lays.n146 P ρ) (hi9:(P.info? (ρ.t 9)).map (fun i=>(i.zero,i.size,i.bytes))=some (some (.string ByteArray.empty),1,16))
  (hG:∀ w fr,R.G w fr→∃ m,w.cell? ⟨(ρ.g 1),0,none⟩=some (.int .i64 m)):gU R P (ρ.f 146) (gM j6):=by
 refine jO hR (fun ds v h=>?_) ⟨_,L.f146,rfl,by show ¬ ("strings.Split" = "runtime.NumGoroutine"); decide⟩ (fun ds v h w fr us hGw hfr hl hr=>?_)
 ·
  unfold j6 at h
  split at h
  ·
   split at h
   ·
    simp only [Option.some.injEq] at h; subst h; rfl
   ·
    cases h
  ·
   cases h
 ·
  unfold j6 at h
  split at h
  ·
   rename_i s c
   split at h
   ·
    rename_i hc
    simp only [Option.some.injEq] at h; subst h
    match us,hl with
    | [u0,u1],_ =>
    obtain rfl:=jK (hr 0 _ _ rfl rfl)
    obtain rfl:=jK (hr 1 _ _ rfl rfl)
    obtain ⟨m,hm⟩:=hG w fr hGw
    refine (Any.strings_Split L hi9 ⟨s.toArray⟩ ⟨#[c]⟩ m w (by simp [ByteArray.size]; omega) hm (by simp [ByteArray.size])).mono (fun e w' hp=>?_)
    obtain ⟨rfl,rfl⟩:=hp
    have hq:(Lib.splitB ⟨#[c]⟩ 0 (Lib.countB ⟨s.toArray⟩ ⟨#[c]⟩) ⟨s.toArray⟩).map (·.data.toList)=gz c s:=by
     rw [Lib.splitB_data]
     have:=xC c s.length s (Nat.le_refl _)
     simpa [Lib.countB] using this
    have hlen:Lib.countB ⟨s.toArray⟩ ⟨#[c]⟩ + 1=(gz c s).length:=by
     rw [← hq,List.length_map,Lib.splitB_all _ (by simp [ByteArray.size]) 0 _ _ rfl]
    refine ⟨(Below.refl _ _).alloc (Nat.le_refl _) _,_,rfl,fun cx S hcx=>.d _ _ ?_⟩
    rw [hlen]
    refine zG (arr:=((Lib.splitB ⟨#[c]⟩ 0 (Lib.countB ⟨s.toArray⟩ ⟨#[c]⟩) ⟨s.toArray⟩).map Value.string).toArray) (heap_alloc_new w _) (fun o q=>?_) ?_ (yC c s)
    ·
     rw [hcx] at q; have:=hfr _ _ q; omega
    ·
     rw [← hq]
     simp
   ·
    cases h
  ·
   cases h
def strsOf:List D→Option (List (List UInt8))
 | []=>some []
 | .str s :: l=>(strsOf l).map (s :: ·)
 | _ :: _=>none
theorem p8:∀ {l:List D} {xs:List (List UInt8)},strsOf l=some xs→l=xs.map .str
 | [],xs,h=>by simp [strsOf] at h; subst h; rfl
 | x :: l,xs,h=>by
  cases x <;> try (cases h; done)
  simp only [strsOf,Option.map_eq_some_iff] at h
  obtain ⟨ys,h1,rfl⟩:=h
  rw [p8 h1]; rfl
def lI:List D→Option AV
 | [.bK,.str _]=>some (.d (.str []))
 | [.sl l _,.str sep]=>match strsOf l with
  | some xs=>if (Lib.join xs sep).length ≤ bound∧xs.length ≤ bound then some (.d (.str (Lib.join xs sep))) else none
  | none=>none
 | _=>none
theorem Ak {R:aW} (hR:ObjOk R) {P:Program} {ρ:Ren} (L:Lays.n156 P ρ) (X:Builder.Extra P ρ):gU R P (ρ.f 156) (gM lI):=by
 refine jO hR (fun ds v h=>?_) ⟨_,L.f156,rfl,by show ¬ ("strings.Join" = "runtime.NumGoroutine"); decide⟩ (fun ds v h w fr us hG hfr hl hr=>?_)
 ·
  unfold lI at h
  split at h
  ·
   simp only [Option.some.injEq] at h; subst h; rfl
  ·
   split at h
   ·
    split at h
    ·
     simp only [Option.some.injEq] at h; subst h; rfl
    ·
     cases h
   ·
    cases h
  ·
   cases h
 ·
  unfold lI at h
  split at h
  ·
   simp only [Option.some.injEq] at h; subst h
   match us,hl with
   | [u0,u1],_ =>
   have a0:=(hr 0 _ _ rfl rfl).val rfl
   cases a0
   obtain rfl:=jK (hr 1 _ _ rfl rfl)
   refine (Any.strings_Join_none L X none 0 _ w).mono (fun e w' hp=>?_)
   obtain ⟨rfl,rfl⟩:=hp
   exact ⟨Below.refl _ _,_,rfl,fun cx S _=>.d _ _ (qH w' cx.fr [])⟩
  ·
   rename_i l t sep
   split at h
   ·
    rename_i xs hxs
    split at h
    ·
     rename_i hc
     simp only [Option.some.injEq] at h; subst h
     have:=p8 hxs
     subst this
     match us,hl with
     | [u0,u1],_ =>
     obtain rfl:=jK (hr 1 _ _ rfl rfl)
     have a0:=(hr 0 _ _ rfl rfl).val rfl
     have key:∀ (q:List UInt8) (e:Ending) (w':World),e=.returned (.string ⟨q.toArray⟩)→Below w.heap.size w w'→Leaves w fr (.d (.str q)) e w':=fun q e w' h1 h2 =>
      ⟨h2,_,h1,fun cx S _=>.d _ _ (qH w' cx.fr q)⟩
     generalize hys:xs.map D.str=ys at a0
     cases a0 with
     | sl0 a cap tt ht =>
      have:xs=[]:=by simpa using hys
      subst this
      refine (Any.strings_Join_none L X a cap _ w).mono (fun e w' hp=>?_)
      obtain ⟨rfl,rfl⟩:=hp
      exact key [] _ _ rfl (Below.refl _ _)
     | sl ys tt b off cap sz vs hne hcap htt hsz hlen hx hcell =>
      subst hys
      have hne':xs ≠ []:=by simpa using hne
      have hpos:0 < xs.length:=List.length_pos_iff.2 hne'
      have h0:(xs.map D.str)[0]? = some (.str (xs[0])):=by simp [hpos]
      have hsz1:sz=1:=(hsz 0 _ h0).symm
      subst hsz1
      have hcells:∀ (j:Nat) (x:ByteArray),(xs.map fun l=>(⟨l.toArray⟩:ByteArray))[j]? = some x→w.cell? ⟨b,off + j,none⟩=some (.string x):=fun j x hj=>by
       simp only [List.getElem?_map,Option.map_eq_some_iff] at hj
       obtain ⟨s,hs,rfl⟩:=hj
       have hjl:j < (xs.map D.str).length:=by simpa using (List.getElem?_eq_some_iff.1 hs).1
       have hr1:=hx j (.str s) (by simp [hs])
       have hl1:=hlen j hjl
       obtain ⟨v,hv⟩:∃ v,vs j=[v]:=by
        match hh:vs j,hl1 with
        | [v],_=>exact ⟨v,rfl⟩
       rw [hv] at hr1
       obtain rfl:=jK (aM.of_cell hr1 rfl)
       have:=(hcell j 0 (.string ⟨s.toArray⟩) hjl (by rw [hv]; rfl)).1
       simpa using this
      have hbk:b < w.heap.size:=jT (hcells 0 ⟨(xs[0]).toArray⟩ (by simp [hpos]))
      have hjn:(xs.map fun l=>(⟨l.toArray⟩:ByteArray)).map (·.data.toList)=xs:=by rw [List.map_map]; exact List.map_id'' (fun _=>rfl) xs
      have hb2:bound ≤ 140737488355328:=by decide
      refine (Any.strings_Join L X b off cap (xs.map fun l=>(⟨l.toArray⟩:ByteArray)) ⟨sep.toArray⟩ w hcells hbk (by rw [List.length_map]; omega) (by simpa using hcap) (by rw [hjn]; simp only []; omega)).mono (fun e w' hp=>?_) |> fun z=>by simpa using z
      obtain ⟨rfl,hb3⟩:=hp
      rw [hjn]
      exact key _ _ _ rfl hb3
    ·
     cases h
   ·
    cases h
  ·
   cases h
end
end Go.Ev

namespace Go.Ev
noncomputable section
set_option linter.unusedVariables false
def Bv (P:Program) (f:Nat):Bool:=match P.funcs[f]? with
 | some fn=>(match fn.body with | some c=>codeOk c | none=>true) && !(fn.name == "runtime.NumGoroutine")
 | none=>true
def zB:List Nat→Nat→Bool
 | [],_=>false
 | x :: l,n=>bif Nat.beq x n then true else zB l n
theorem wh:∀ {l:List Nat} {n:Nat},zB l n=true→n ∈ l
 | [],n,h=>by cases h
 | x :: l,n,h=>by
  unfold zB at h
  cases hb:Nat.beq x n
  ·
   rw [hb] at h; exact List.mem_cons_of_mem _ (wh h)
  ·
   have:=Nat.eq_of_beq_eq_true hb; subst this; exact List.mem_cons_self
def vk (P:Program) (good rows:List Nat) (ps:AL Prim) (hasB:Bool) (bt:Nat):dX :=
 { P:=P,good:=zB good,rowT:=zB rows,prim:=fun f args S=>match AL.get ps f with | some p=>p args S | none=>none,objT:=fun t=>bif hasB && Nat.beq t bt then some (1,.str []) else none,hasPrim:=AL.has ps }
theorem Br {G:World→(Nat→Nat→Prop)→Prop} (hG:mf G) {P:Program} {good rows:List Nat} {ps:AL Prim} {hasB:Bool} {bt e:Nat} (hg:good.all (Bv P)=true) (hm:P.follows .mixedOrders=true)
  (hz:hasB=true→∀ w,(zeroValue bt).run P w=.ok (.agg #[.pointer none,.slice none 0 0]) w) (hp:uS (q8 bt e G) P ps):BK (q8 bt e G) (vk P good rows ps hasB bt) where
 obj:={ uG hG with
  new:=fun t k x h=>by
   simp only [vk] at h
   cases hb:hasB && Nat.beq t bt with
   | false=>rw [hb] at h; cases h
   | true =>
    rw [hb] at h
    simp only [cond_true,Option.some.injEq,Prod.mk.injEq] at h
    obtain ⟨rfl,rfl⟩:=h
    simp only [Bool.and_eq_true] at hb
    have ht:=Nat.eq_of_beq_eq_true hb.2
    subst ht
    exact ⟨_,hz hb.1,fun w=>.inl ⟨rfl,[],.pointer none,.slice none 0 0,rfl,⟨.inl rfl,heap_alloc_new w _,World.ownsRow_nil _ 0 e 1,by simp [Value.ownBlock]⟩,fun c=>by simp [Value.ownBlock]⟩,rfl⟩ }
 mixed:=hm
 code:=fun f fn c h hf hc=>by
  have:=List.all_eq_true.1 hg f (wh h)
  unfold Bv at this
  have hf':P.funcs[f]? = some fn:=hf
  simp only [hf',hc,Bool.and_eq_true,Bool.not_eq_true'] at this
  exact ⟨this.1,fun q=>by rw [q] at this; simp at this⟩
 primPure:=fun f args S v S' _ h h1 h2 S2=>by
  simp only [vk] at h ⊢
  split at h
  ·
   rename_i p hq; exact (lV hp hq).pure args S v S' h h1 h2 S2
  ·
   cases h
 prim:=fun f args S v S' _ h=>by
  simp only [vk] at h
  split at h
  ·
   rename_i p hq; exact (lV hp hq).calls args S v S' h
  ·
   cases h
end
end Go.Ev

namespace Go.Ev
noncomputable section
set_option linter.unusedVariables false
set_option linter.unusedSimpArgs false
def yI:Nat→Nat→Prop:=fun _ _=>False
structure jC (w:World) (ds:List D) (cs:List Value):Prop where
 len:cs.length=ds.length
 one:∀ v ∈ cs,v.oneCell'=true
 flat:∀ d ∈ ds,d.isAgg=false
 rel:∀ (i:Nat) (d:D) (v:Value),ds[i]? = some d→cs[i]? = some v→dZ w yI d [v]
theorem jC.nil {w:World}:jC w [] []:=⟨rfl,by simp,by simp,by simp⟩
theorem jC.append {w:World} {a b:List D} {x y:List Value} (h:jC w a x) (k:jC w b y):jC w (a ++ b) (x ++ y) where
 len:=by simp [h.len,k.len]
 one:=fun v hv=>by rcases List.mem_append.1 hv with q | q; exact h.one v q; exact k.one v q
 flat:=fun v hv=>by rcases List.mem_append.1 hv with q | q; exact h.flat v q; exact k.flat v q
 rel:=fun i d v hd hv=>by
  by_cases hi:i < a.length
  ·
   rw [List.getElem?_append_left hi] at hd
   rw [List.getElem?_append_left (by rw [h.len]; exact hi)] at hv
   exact h.rel i d v hd hv
  ·
   rw [List.getElem?_append_right (by omega)] at hd
   rw [List.getElem?_append_right (by rw [h.len]; omega),h.len] at hv
   exact k.rel _ d v hd hv
theorem jC.single {w:World} {d:D} {v:Value} (h:dZ w yI d [v]) (ho:v.oneCell'=true) (hd:d.isAgg=false):jC w [d] [v] where
 len:=rfl
 one:=by simpa using ho
 flat:=by simpa using hd
 rel:=fun i d' v' h1 h2=>by
  cases i with
  | zero=>simp at h1 h2; subst h1; subst h2; exact h
  | succ i=>simp at h1
theorem jC.Bd {w:World} {x:D} {cs:List Value} (h:jC w x.cells cs):dZ w yI x cs:=by
 cases hx:x.isAgg with
 | true =>
  cases x <;> simp [D.isAgg] at hx
  rename_i xs
  exact .agg xs cs h.len h.one h.flat h.rel
 | false =>
  have hc:x.cells=[x]:=by cases x <;> simp_all [D.isAgg,D.cells]
  rw [hc] at h
  have hl:=h.len
  match cs,hl with
  | [v],_=>exact h.rel 0 x v rfl rfl
def ll (P:Program) (t:Nat) {α:Type} (enc:α→D) (wf:α→Prop):Prop :=
 ∀ {H:Type} (en:TypeId × Value→H) (w:World) (base:Nat) (sp:Nat→Bool) (held:Bool) (fuel:Nat) (cs:List Value) (d:DataW H) (p:List MemPlace),
  DataW.trod en P w base sp held fuel t cs=some (d,p)→∃ x,wf x∧jC w (enc x).cells cs
theorem ll.int {P:Program} {t:Nat} {k:IntKind} (hu:P.underlying t=some (.int k)):ll P t (D.int k) (fun n=>(Lit.int k n).wf=true):=by
 intro H en w base sp held fuel cs d p h
 cases fuel with
 | zero=>cases h
 | succ fuel =>
  simp only [DataW.trod,hu] at h
  split at h <;> first | (simp_all; done) | skip
  rename_i k' k2 n heq
  simp only [Option.some.injEq,TypeDesc.int.injEq] at heq
  subst heq
  split at h
  ·
   rename_i hc
   obtain ⟨rfl,hw⟩:=hc
   exact ⟨n,hw,.single (.int _ _) rfl rfl⟩
  ·
   cases h
theorem ll.str {P:Program} {t:Nat} (hu:P.underlying t=some .string):ll P t D.str (fun s=>s.length ≤ maxLen):=by
 intro H en w base sp held fuel cs d p h
 cases fuel with
 | zero=>cases h
 | succ fuel =>
  simp only [DataW.trod,hu] at h
  split at h <;> first | (simp_all; done) | skip
  rename_i s heq
  split at h
  ·
   rename_i hc
   exact ⟨s.data.toList,by simpa using hc,.single (.str _) rfl rfl⟩
  ·
   cases h
theorem oZ {w:World} {base:Nat} {a:Addr} {n:Nat} {cs:List Value} (h:w.cells? base a n=some cs):cs.length=n∧∀ j v,cs[j]? = some v→w.cell? (a.add j)=some v:=by
 unfold World.cells? at h
 split at h
 ·
  have hl:=mapM_some_length h
  refine ⟨by simpa using hl,fun j v hj=>?_⟩
  have hlt:j < n:=by have:=(List.getElem?_eq_some_iff.1 hj).1; rw [hl] at this; simpa using this
  have:=mapM_some_get h j j (by simp [hlt])
  rw [this,hj]
 ·
  cases h
theorem ll.slice {P:Program} {t e:Nat} {α:Type} {enc:α→D} {wf:α→Prop} (hu:P.underlying t=some (.slice e)) (he:ll P e enc wf) (hsz:∀ x,(enc x).cells.length=P.cellsOf e) (h0:0 < P.cellsOf e) :
  ll P t (CZ enc) (fun l=>l.length ≤ maxLen∧∀ x ∈ l,wf x):=by
 intro H en w base sp held fuel cs d p h
 cases fuel with
 | zero=>cases h
 | succ fuel =>
  simp only [DataW.trod,hu] at h
  split at h <;> first | (simp_all; done) | skip
  ·
   exact ⟨[],⟨by simp,by simp⟩,.single (.sl0 none 0 false (fun h=>by cases h)) rfl rfl⟩
  ·
   rename_i e' a len cap heq
   simp only [Option.some.injEq,TypeDesc.slice.injEq] at heq
   subst heq
   split at h
   ·
    rename_i hc
    simp only [Option.bind_eq_some_iff] at h
    obtain ⟨els,hels,h⟩:=h
    have hl:=mapM_some_length hels
    have each:∀ i,i < len→∃ x ci,wf x∧w.cells? base (a.add (i * P.cellsOf e)) (P.cellsOf e)=some ci∧jC w (enc x).cells ci:=fun i hi=>by
     have hg:=mapM_some_get hels i i (by simp [hi])
     have hlt:i < els.length:=by rw [hl]; simpa using hi
     rw [List.getElem?_eq_getElem hlt,Option.bind_eq_some_iff] at hg
     obtain ⟨ci,h1,h2⟩:=hg
     obtain ⟨x,hx,hr⟩:=he en w base sp held fuel ci _ _ h2
     exact ⟨x,ci,hx,h1,hr⟩
    by_cases hz:len=0
    ·
     subst hz
     exact ⟨[],⟨by simp,by simp⟩,.single (.sl0 (some a) cap false (fun h=>by cases h)) rfl rfl⟩
    ·
     have hpos:0 < len:=by omega
     have hspot:a.spot=none:=by
      obtain ⟨x,ci,_,h1,_⟩:=each 0 hpos
      obtain ⟨l1,l2⟩:=oZ h1
      have hne:0 < ci.length:=by omega
      have:=l2 0 ci[0] (List.getElem?_eq_getElem hne)
      unfold World.cell? at this
      split at this
      ·
       split at this
       ·
        cases this
       ·
        rename_i hs; cases hsp:a.spot with
        | none=>rfl
        | some q=>simp [Addr.add,hsp] at hs
      ·
       cases this
     have:Inhabited α:=⟨(each 0 hpos).choose⟩
     let f:Nat→α:=fun i=>if hi:i < len then (each i hi).choose else default
     let g:Nat→List Value:=fun i=>if hi:i < len then (each i hi).choose_spec.choose else []
     have hfg:∀ i,i < len→wf (f i)∧w.cells? base (a.add (i * P.cellsOf e)) (P.cellsOf e)=some (g i)∧jC w (enc (f i)).cells (g i):=fun i hi=>by
      have:=(each i hi).choose_spec.choose_spec
      simp only [f,g,hi,dif_pos]
      exact this
     let l:=(List.range len).map f
     have hll:l.length=len:=by simp [l]
     have hli:∀ i x,l[i]? = some x→i < len∧x=f i:=fun i x hx=>by
      simp only [l,List.getElem?_map,Option.map_eq_some_iff] at hx
      obtain ⟨j,hj,rfl⟩:=hx
      have:=List.getElem?_eq_some_iff.1 hj
      obtain ⟨h1,h2⟩:=this
      simp at h1 h2
      subst h2
      exact ⟨h1,rfl⟩
     refine ⟨l,⟨by rw [hll]; omega,fun x hx=>?_⟩,?_⟩
     ·
      obtain ⟨i,hi,rfl⟩:=List.getElem_of_mem hx
      obtain ⟨h1,h2⟩:=hli i _ (List.getElem?_eq_getElem hi)
      rw [h2]; exact (hfg i h1).1
     ·
      have ha:a=⟨a.block,a.off,none⟩:=by rw [← hspot]
      refine .single ?_ rfl rfl
      rw [ha]
      have hlm:(l.map enc).length=len:=by simp [hll]
      have key:dZ w yI (.sl (l.map enc) false) [.slice (some ⟨a.block,a.off,none⟩) (l.map enc).length cap]:=by
       refine .sl (l.map enc) false a.block a.off cap (P.cellsOf e) g ?_ (by rw [hlm]; exact hc.2.1) (fun h=>by cases h) (fun i x hi=>?_) (fun i hi=>?_) (fun i x hi=>?_) (fun i j v hi hv=>?_)
       ·
        intro q; rw [q] at hlm; simp at hlm; omega
       ·
        rw [List.getElem?_map,Option.map_eq_some_iff] at hi
        obtain ⟨y,_,rfl⟩:=hi
        exact hsz y
       ·
        exact (oZ (hfg i (by rw [hlm] at hi; exact hi)).2.1).1
       ·
        rw [List.getElem?_map,Option.map_eq_some_iff] at hi
        obtain ⟨y,hy,rfl⟩:=hi
        obtain ⟨h1,rfl⟩:=hli i y hy
        exact (hfg i h1).2.2.Bd
       ·
        rw [hlm] at hi
        have:=(oZ (hfg i hi).2.1).2 j v hv
        refine ⟨?_,fun q=>q⟩
        rw [← this]
        congr 1
        have hz:∀ (b:Addr) (m:Nat),b.spot=none→b.add m=⟨b.block,b.off + m,none⟩:=fun b m hb=>by
         obtain ⟨b1,b2,b3⟩:=b
         cases hb
         cases m <;> simp [Addr.add]
        rw [hz a _ hspot,hz _ j rfl]
      rw [hlm] at key
      exact key
   ·
    cases h
def uk (P:Program) (fs:List Field) (off tot:Nat) {β:Type} (enc:β→List D) (wf:β→Prop):Prop :=
 ∀ {H:Type} (en:TypeId × Value→H) (w:World) (base:Nat) (sp:Nat→Bool) (held:Bool) (fuel:Nat) (cs:List Value) (xs:List (DataW H × List MemPlace)),
  (fs.mapM fun f=>DataW.trod en P w base sp held fuel f.type ((cs.drop f.offset).take (P.cellsOf f.type)))=some xs→∃ y,wf y∧jC w (enc y) ((cs.drop off).take tot)
theorem uk.nil {P:Program} {off:Nat}:uk P [] off 0 (fun _:Unit=>[]) (fun _=>True) :=
 fun en w base sp held fuel cs xs h=>⟨(),trivial,by simpa using jC.nil⟩
theorem uk.cons {P:Program} {f:Field} {fs:List Field} {off sz tot:Nat} {α β:Type} {enc:α→D} {wf:α→Prop} {enc2:β→List D} {wf2:β→Prop}
  (ho:f.offset=off) (hz:P.cellsOf f.type=sz) (h:ll P f.type enc wf) (k:uk P fs (off + sz) tot enc2 wf2) :
  uk P (f :: fs) off (sz + tot) (fun p:α × β=>(enc p.1).cells ++ enc2 p.2) (fun p=>wf p.1∧wf2 p.2):=by
 intro H en w base sp held fuel cs xs hx
 simp only [List.mapM_cons,Option.pure_def,Option.bind_eq_bind,Option.bind_eq_some_iff] at hx
 obtain ⟨x,hx,ys,hys,_⟩:=hx
 rw [ho,hz] at hx
 obtain ⟨a,a1,a2⟩:=h en w base sp held fuel _ x.1 x.2 hx
 obtain ⟨b,b1,b2⟩:=k en w base sp held fuel cs ys hys
 refine ⟨(a,b),⟨a1,b1⟩,?_⟩
 rw [List.take_add,List.drop_drop]
 exact a2.append b2
theorem ll.struct {P:Program} {t tot:Nat} {fs:Array Field} {α β:Type} {enc:α→D} {wf:α→Prop} {enc2:β→List D} {wf2:β→Prop} (hu:P.underlying t=some (.struct fs)) (hz:P.cellsOf t=tot)
  (h:uk P fs.toList 0 tot enc2 wf2) (g:β→α) (hg:∀ y,(enc (g y)).cells=enc2 y) (hw:∀ y,wf2 y→wf (g y)):ll P t enc wf:=by
 intro H en w base sp held fuel cs d p hd
 cases fuel with
 | zero=>cases hd
 | succ fuel =>
  simp only [DataW.trod,hu] at hd
  split at hd
  ·
   rename_i hc
   simp only [Option.map_eq_some_iff] at hd
   obtain ⟨xs,hxs,_⟩:=hd
   obtain ⟨y,y1,y2⟩:=h en w base sp held fuel cs xs hxs
   refine ⟨g y,hw y y1,?_⟩
   rw [hg y]
   rw [hz] at hc
   simpa [← hc] using y2
  ·
   cases hd
theorem AB {P:Program} {t:Nat} {fs:Array Field} {α:Type} {enc:α→D} {wf:α→Prop} (hu:P.underlying t=some (.struct fs)) (O:ll P t enc wf) (ha:∀ x,(enc x).isAgg=true)
  {H:Type} {en:TypeId × Value→H} {w:World} {base b0:Nat} {sp:Nat→Bool} {held:Bool} {v:Value} {d:DataW H} {p:List MemPlace} {r:Reach} (hval:Value.okWide P w r b0 t v) (hd:DataW.Trod en P w base sp held t v d p) :
  ∃ x,wf x∧aM w yI (enc x) v:=by
 unfold Value.okWide at hval
 rw [hu] at hval
 obtain ⟨cs,rfl,_,_⟩:=hval
 obtain ⟨fuel,hf⟩:=hd
 obtain ⟨x,x1,x2⟩:=O en w base sp held fuel _ d p hf
 exact ⟨x,x1,x2.Bd,ha x⟩
theorem BX {P:Program} {t:Nat} {α:Type} {enc:α→D} {wf:α→Prop} (O:ll P t enc wf) (ha:∀ x,(enc x).isAgg=false)
  {H:Type} {en:TypeId × Value→H} {w:World} {base b0:Nat} {sp:Nat→Bool} {held:Bool} {v:Value} {d:DataW H} {p:List MemPlace} (hval:qB v=false) (hd:DataW.Trod en P w base sp held t v d p) :
  ∃ x,wf x∧aM w yI (enc x) v:=by
 obtain ⟨fuel,hf⟩:=hd
 obtain ⟨x,x1,x2⟩:=O en w base sp held fuel _ d p hf
 exact ⟨x,x1,x2.Bd,by rw [hval]; exact ha x⟩
end
end Go.Ev

namespace Go.Ev
noncomputable section
set_option linter.unusedVariables false
set_option linter.unusedSimpArgs false
variable {R:aW} {C:dX} {P:Program}
theorem dN.qG {f:Nat} {p:Prim} (h:gU R P f p) {args:List AV} {S S':St} {v:AV} (hp:p args S=some (v,S')):dN R P f args S (fun r=>r=(none,v,S')):=by
 obtain ⟨h1,h2⟩:=h.calls args S v S' hp
 refine ⟨h1,fun cx w us q1 q2 q3=>(h2 cx w us q1 q2 q3).mono (fun e w' ⟨cx',k1,k2,u,k3,k4⟩=>⟨_,rfl,cx',k1,k2,u,k3,k4⟩)⟩
theorem aV.BV {f:Nat} {spec:List D→Option AV} (h:gU R P f (gM spec)) {ds:List D} {v:AV} (hv:spec ds=some v):aV R P f ds v:=fun args S ha=>by
 have hp:gM spec (ds.map .d) S=some (v,S):=by
  unfold gM
  rw [xI]
  simp [hv]
 exact (dN.qG h hp).zi ha.Aj
theorem uw.BC {fb fs ft:Nat} (h1:gU R P fb sI) (h2:gU R P fs qW) (h3:gU R P ft rR):uw R P fb fs ft where
 wb:=fun S id s c r hS hr=>dN.qG h1 (by
  unfold qy at hr
  split at hr
  ·
   rename_i hc; cases hr
   unfold sI
   simp only [hS]
   rw [if_pos hc]
  ·
   cases hr)
 ws:=fun S id s u r hS hr=>dN.qG h2 (by
  unfold vg at hr
  split at hr
  ·
   rename_i hc; cases hr
   unfold qW
   simp only [hS]
   rw [if_pos hc]
  ·
   cases hr)
 st:=fun S id s hS=>dN.qG h3 (by
  unfold rR
  simp only [hS])
theorem zS (hR:ObjOk R) {f:Nat} {ds:List D} {x:D} (h:aV R P f ds (.d x)) (w:World) (hG:R.G w (fun _ _=>False)) (us:List Value) (hl:us.length=ds.length)
  (hr:∀ (i:Nat) (y:D) (u:Value),ds[i]? = some y→us[i]? = some u→aM w (fun _ _=>False) y u) :
  Calls P f us.toArray w (fun e w'=>∃ u,e=.returned u∧aM w' (fun _ _=>False) x u∧RowKit.Below w.heap.size w w'):=by
 let cx:Cx:={ bm:=fun _=>0,fp:=fun _ _=>False,tsz:=fun _=>0,tot:=fun _=>0,fr:=fun _ _=>False }
 have hS:aJ R cx ax w:=⟨fun id hl=>absurd rfl hl,fun id b hb=>by simp [ax,AL.get] at hb,fun id g cs hb=>by simp [ax,AL.get] at hb,fun id es hb=>by simp [ax,AL.get] at hb,
  fun id k x hb=>by simp [ax,AL.get] at hb,fun id en hb=>by simp [ax,AL.get] at hb,fun id id' b hl=>absurd rfl hl,fun b o q=>q.elim,hG⟩
 have h2:=(h (ds.map .d) ax ⟨ds,xI ds,.refl ds⟩).2
 refine (h2 cx w us hS (by simp [hl]) (fun i y u hy hu=>?_)).mono (fun e w' he=>?_)
 ·
  simp only [List.getElem?_map,Option.map_eq_some_iff] at hy
  obtain ⟨z,hz,rfl⟩:=hy
  exact .d z u (hr i z u hz hu)
 ·
  obtain ⟨r,rfl,cx',k1,k2,k3⟩:=he
  obtain ⟨u,rfl,k3⟩:=k3
  obtain ⟨m1,m2,m3⟩:=tL hR hS k2
  exact ⟨u,rfl,m3 _ _ k3.dd,⟨m2.os,m2.tape,m2.output,m2.size,fun b hb=>(k2.other b hb (fun id hl=>absurd rfl hl)).1⟩⟩
theorem uu (c:UInt8):∀ (s:List UInt8),gz c s=cz c s
 | []=>rfl
 | b :: l=>by rw [gz,cz,uu c l]; rfl
theorem Bl {n:Nat} {s sep:List UInt8} {r:List (List UInt8)} (h:strings_Split n s sep=some r):j6 [.str s,.str sep]=some (.d (.sl (r.map .str) false)):=by
 unfold strings_Split at h
 split at h
 ·
  split at h
  ·
   rename_i hl; cases h
   unfold j6
   simp only [hl,if_true,uu]
  ·
   cases h
 ·
  cases h
theorem qK:∀ (l:List (List UInt8)),strsOf (l.map .str)=some l
 | []=>rfl
 | x :: l=>by rw [List.map_cons,strsOf,qK l]; rfl
theorem Bp {n:Nat} {l:List (List UInt8)} {sep r:List UInt8} (h:strings_Join n l sep=some r):lI [.sl (l.map .str) false,.str sep]=some (.d (.str r)):=by
 unfold strings_Join at h
 split at h
 ·
  rename_i hl; cases h
  simp only [lI,qK,hl,and_self,if_true]
 ·
  cases h
end
end Go.Ev

namespace Go.Ev
noncomputable section
set_option linter.unusedVariables false
set_option linter.unusedSimpArgs false
variable {R:aW} {P:Program} {B:St}
def without (S:St) (ids:List Nat):St:=ids.foldl (fun S id=>{ S with H:=S.H.del id,T:=S.T.del id }) S
section
variable {C:dX} {nt:Nat}
section steps
variable {ops:Array Oper} {rest:List Oper} {e:Env} {S S':St} {Q:Stp→Prop} {l l':List dB} {t ty:Nat} {p:String} {af:Array Edge} {g:Option (Nat × Bool)} {x y:Operand} {v:AV}
end steps
end
end
end Go.Ev

namespace Go.Ev
noncomputable section
set_option linter.unusedVariables false
set_option linter.unusedSimpArgs false
variable {R:aW} {C:dX} {nt:Nat} {B:St}
end
end Go.Ev

namespace Go.Ev
namespace Pr
set_option linter.unusedVariables false
set_option linter.unusedSimpArgs false
structure Seg where
 Kind:Int
 Text:Str
 deriving DecidableEq
def aF (x:Seg):D:=.agg [(.int .i64 x.Kind),(.str x.Text)]
theorem Seg.eq (x:Seg):aF x=.agg [(.int .i64 x.Kind),(.str x.Text)]:=rfl
theorem Seg.cells (x:Seg):(aF x).cells=[(.int .i64 x.Kind),(.str x.Text)]:=by rw [Seg.eq]; rfl
theorem Seg.eO (x:Seg):(AV.d (aF x)).cells=[.d (.int .i64 x.Kind),.d (.str x.Text)]:=by rw [Seg.eq]; rfl
theorem Seg.agg (x:Seg):(aF x).isAgg=true:=by rw [Seg.eq]; rfl
theorem Seg.len (x:Seg):(aF x).cells.length=2:=by rw [Seg.cells]; rfl
theorem Seg.kH {P:Program} {t:Nat} {x:Seg} (ha:fJ P t=some true) (hz:aC P t=2):fM P t (aF x).cells 0=some (aF x):=by
 rw [Seg.cells,um ha hz rfl,Seg.eq]; rfl
def Seg.beq (x y:Seg):Bool:=((x.Kind == y.Kind) && ((x.Text == y.Text) && true))
structure bq where
 Kinds:(List Int)
 Texts:(List Int)
 Last:Int
def di (x:bq):D:=.agg [(.sl ((x.Kinds).map (D.int .i64)) false),(.sl ((x.Texts).map (D.int .i64)) false),(.int .i64 x.Last)]
theorem bq.eq (x:bq):di x=.agg [(.sl ((x.Kinds).map (D.int .i64)) false),(.sl ((x.Texts).map (D.int .i64)) false),(.int .i64 x.Last)]:=rfl
theorem bq.cells (x:bq):(di x).cells=[(.sl ((x.Kinds).map (D.int .i64)) false),(.sl ((x.Texts).map (D.int .i64)) false),(.int .i64 x.Last)]:=by rw [bq.eq]; rfl
theorem bq.eO (x:bq):(AV.d (di x)).cells=[.d (.sl ((x.Kinds).map (D.int .i64)) false),.d (.sl ((x.Texts).map (D.int .i64)) false),.d (.int .i64 x.Last)]:=by rw [bq.eq]; rfl
theorem bq.agg (x:bq):(di x).isAgg=true:=by rw [bq.eq]; rfl
structure aN where
 Name:Str
 Value:Str
 deriving DecidableEq
def aB (x:aN):D:=.agg [(.str x.Name),(.str x.Value)]
theorem aN.eq (x:aN):aB x=.agg [(.str x.Name),(.str x.Value)]:=rfl
theorem aN.cells (x:aN):(aB x).cells=[(.str x.Name),(.str x.Value)]:=by rw [aN.eq]; rfl
theorem aN.eO (x:aN):(AV.d (aB x)).cells=[.d (.str x.Name),.d (.str x.Value)]:=by rw [aN.eq]; rfl
theorem aN.agg (x:aN):(aB x).isAgg=true:=by rw [aN.eq]; rfl
theorem aN.len (x:aN):(aB x).cells.length=2:=by rw [aN.cells]; rfl
theorem aN.kH {P:Program} {t:Nat} {x:aN} (ha:fJ P t=some true) (hz:aC P t=2):fM P t (aB x).cells 0=some (aB x):=by
 rw [aN.cells,um ha hz rfl,aN.eq]; rfl
def aN.beq (x y:aN):Bool:=((x.Name == y.Name) && ((x.Value == y.Value) && true))
structure pg where
 Path:(List Str)
 Query:(List aN)
def nJ (x:pg):D:=.agg [(.sl ((x.Path).map D.str) false),(.sl ((x.Query).map aB) false)]
theorem pg.eq (x:pg):nJ x=.agg [(.sl ((x.Path).map D.str) false),(.sl ((x.Query).map aB) false)]:=rfl
theorem pg.cells (x:pg):(nJ x).cells=[(.sl ((x.Path).map D.str) false),(.sl ((x.Query).map aB) false)]:=by rw [pg.eq]; rfl
theorem pg.eO (x:pg):(AV.d (nJ x)).cells=[.d (.sl ((x.Path).map D.str) false),.d (.sl ((x.Query).map aB) false)]:=by rw [pg.eq]; rfl
structure Al where
 Path:(List Int)
 Names:(List Int)
 Values:(List Int)
def cK (a2:Int) (x7:Int):Option Int :=
 (some (IntKind.wrap .i64 (a2 + x7)))
def bF (n:Nat) (a1:Int) (a2:Int) (a3:Int):Option Int :=
 ((yQ .i64 a1 (IntKind.wrap .i64 ((IntKind.wrap .i64 (a3 - a2)) + 1))).bind fun z4=>(if (decide (z4 < 0))=true then (cK a2 ((IntKind.wrap .i64 ((IntKind.wrap .i64 ((IntKind.wrap .i64 (z4 + a3)) - a2)) + 1)))) else (cK a2 (z4))))
def dQ (n:Nat) (a1:(List Int)) (a2:Int):Option Int :=
 (if (((a1).length:Int) == 0)=true then (some 0) else ((yQ .i64 a2 ((a1).length:Int)).bind fun z4=>((idx a1 z4).bind fun z5=>(some z5))))
def aY (x14:(List Seg)) (x16:Int) (again17:(List Seg)→Int→Option (List Seg)) (z21:Int) (z24:Str) (x37:Str):Option (List Seg) :=
 ((app 24 x14 [(Seg.mk ((Seg.mk z21 z24).Kind) x37)]).bind fun z39=>(again17 (z39) ((IntKind.wrap .i64 (x16 + 1)))))
def bC (x49:(List Seg)):Option (List Seg) :=
 (some x49)
def aH (n:Nat) (a1:bq):Nat→(List Seg)→Int→Option (List Seg)
 | 0,_,_=>none
 | k17 + 1,x14,x16 =>
  (if ((decide (x16 < ((a1.Kinds).length:Int))) && (decide (x16 < 4)))=true then ((idx a1.Kinds x16).bind fun z20=>((bF n z20 0 1).bind fun z21=>((dQ n a1.Texts x16).bind fun z22=>((bF n z22 0 (IntKind.wrap .i64 (((([[97],[98],[105,116,101,109],[122],[49],[108,105,115,116]]:List Str)).length:Int) - 1))).bind fun z23=>((idx ([[97],[98],[105,116,101,109],[122],[49],[108,105,115,116]]:List Str) z23).bind fun z24=>(if (((Seg.mk z21 z24).Kind) == 1)=true then ((cat [112] (([(IntKind.wrap .u8 (IntKind.wrap .i64 (48 + x16)))]).map fun (n:Int)=>UInt8.ofNat n.toNat)).bind fun z44=>(aY x14 x16 (aH n a1 k17) z21 z24 (z44))) else (aY x14 x16 (aH n a1 k17) z21 z24 ((Seg.mk z21 z24).Text)))))))) else ((bF n a1.Last 0 5).bind fun z52=>(if ((z52 == 2) || (z52 == 3))=true then ((app 24 x14 [(Seg.mk z52 [108,97,115,116])]).bind fun z55=>(bC (z55))) else (bC (x14)))))
def bN (n:Nat) (a1:bq):Option (List Seg) :=
 (aH n a1 n ([]) (0))
def gZ (n:Nat) (a1:Al) (z8:(List Str)) (x21:(List Str)):Nat→(List aN)→Int→Option pg
 | 0,_,_=>none
 | k53 + 1,x50,x52 =>
  (if ((decide (x52 < ((a1.Names).length:Int))) && (decide (x52 < 3)))=true then ((idx a1.Names x52).bind fun z56=>((bF n z56 0 (IntKind.wrap .i64 (((z8).length:Int) - 1))).bind fun z57=>((idx z8 z57).bind fun z58=>((dQ n a1.Values x52).bind fun z59=>((bF n z59 0 (IntKind.wrap .i64 (((z8).length:Int) - 1))).bind fun z60=>((idx z8 z60).bind fun z61=>((app 32 x50 [(aN.mk z58 z61)]).bind fun z62=>((gZ n a1 z8 x21 k53) (z62) ((IntKind.wrap .i64 (x52 + 1))))))))))) else (some (pg.mk x21 x50)))
def ku (n:Nat) (a1:Al) (z8:(List Str)):Nat→(List Str)→Int→Option pg
 | 0,_,_=>none
 | k24 + 1,x21,x23 =>
  (if ((decide (x23 < ((a1.Path).length:Int))) && (decide (x23 < 5)))=true then ((idx a1.Path x23).bind fun z27=>((bF n z27 0 (IntKind.wrap .i64 (((z8).length:Int) - 1))).bind fun z28=>((idx z8 z28).bind fun z29=>((app 16 x21 [z29]).bind fun z30=>((ku n a1 z8 k24) (z30) ((IntKind.wrap .i64 (x23 + 1)))))))) else (gZ n a1 z8 x21 n ([]) (0)))
def gT (n:Nat) (a1:Str):Option Bool :=
 ((if ((!(a1 == [])) && (decide (((a1).length:Int) ≤ 16)))=true then ((iE n a1 [97,98,99,100,101,102,103,104,105,106,107,108,109,110,111,112,113,114,115,116,117,118,119,120,121,122,48,49,50,51,52,53,54,55,56,57]).bind fun z3=>(some (z3 == []))) else some false).bind fun z4=>(some z4))
def eB (n:Nat) (a1:Seg) (a2:Seg):Option Bool :=
 (some ((a1.Kind != 0) && (a1.Text == a2.Text)))
def aI (a1:(List Seg)) (p2:Seg→Option Bool):Nat→Int→Option Int
 | 0,_=>none
 | k13 + 1,x12 =>
  (if (decide (x12 < ((a1).length:Int)))=true then ((idx a1 x12).bind fun z15=>((p2 z15).bind fun z16=>(if z16=true then (some x12) else ((aI a1 p2 k13) ((IntKind.wrap .i64 (x12 + 1))))))) else (some (-1)))
def bM (n:Nat) (a1:(List Seg)) (p2:Seg→Option Bool):Option Int :=
 (aI a1 p2 n (0))
def aS (n:Nat) (a1:(List Seg)) (p2:Seg→Option Bool):Option Bool :=
 ((bM n a1 p2).bind fun z6=>(some (decide (0 ≤ z6))))
def bT (n:Nat) (a1:(List Seg)):Nat→Int→Option Bool
 | 0,_=>none
 | k11 + 1,x10 =>
  (if (decide (x10 < ((a1).length:Int)))=true then ((idx a1 x10).bind fun z13=>((gT n z13.Text).bind fun z19=>(if (((!z19) || (decide (z13.Kind < 0))) || (decide (3 < z13.Kind)))=true then (some false) else (if ((decide (2 ≤ z13.Kind)) && (!(x10 == (IntKind.wrap .i64 (((a1).length:Int) - 1)))))=true then (some false) else ((if (z13.Kind != 0)=true then ((cut a1 0 x10).bind fun z25=>((aS n z25 (fun y26=>eB n y26 z13)).bind fun z27=>(some z27))) else some false).bind fun z26=>(if z26=true then (some false) else ((bT n a1 k11) ((IntKind.wrap .i64 (x10 + 1)))))))))) else (some true))
def dh (n:Nat) (a1:(List Seg)):Option Bool :=
 (if (decide (8 < ((a1).length:Int)))=true then (some false) else (bT n a1 n (0)))
def mh (n:Nat) (a1:Int):Option Bool :=
 ((if ((((decide (97 ≤ a1)) && (decide (a1 ≤ 122))) || ((decide (65 ≤ a1)) && (decide (a1 ≤ 90)))) || ((decide (48 ≤ a1)) && (decide (a1 ≤ 57))))=true then some true else ((strings_IndexByte n [45,46,95,126] a1).bind fun z7=>(some (decide (0 ≤ z7))))).bind fun z8=>(some z8))
def gD (x14:Int) (again15:Str→Int→Option Str) (x19:Str):Option Str :=
 (again15 (x19) ((IntKind.wrap .i64 (x14 + 1))))
def dn (n:Nat) (a1:Str):Nat→Str→Int→Option Str
 | 0,_,_=>none
 | k15 + 1,x13,x14 =>
  (if (decide (x14 < ((a1).length:Int)))=true then ((idx (a1:Str) x14).bind fun z21=>((mh n (z21.toNat:Int)).bind fun z22=>(if z22=true then ((qy x13 (z21.toNat:Int)).bind fun z26=>(gD x14 (dn n a1 k15) (z26))) else ((qy x13 37).bind fun z29=>((Bb .u8 (z21.toNat:Int) 4).bind fun z30=>((idx ([48,49,50,51,52,53,54,55,56,57,65,66,67,68,69,70]:Str) z30).bind fun z31=>((qy z29 (z31.toNat:Int)).bind fun z34=>((idx ([48,49,50,51,52,53,54,55,56,57,65,66,67,68,69,70]:Str) (BQ .u8 (z21.toNat:Int) 15)).bind fun z35=>((qy z34 (z35.toNat:Int)).bind fun z38=>(gD x14 (dn n a1 k15) (z38))))))))))) else (some x13))
def nC (n:Nat) (a1:Str):Option Str :=
 (dn n a1 n ([]) (0))
def dP (n:Nat) (a1:(List Str)):Nat→(List Str)→Int→Option Str
 | 0,_,_=>none
 | k14 + 1,x11,x13 =>
  (if (decide (x13 < ((a1).length:Int)))=true then ((idx a1 x13).bind fun z16=>((nC n z16).bind fun z17=>((app 16 x11 [z17]).bind fun z18=>((dP n a1 k14) (z18) ((IntKind.wrap .i64 (x13 + 1))))))) else ((strings_Join n x11 [47]).bind fun z22=>(some z22)))
def kU (n:Nat) (a1:(List Str)):Option Str :=
 (dP n a1 n ([]) (0))
def eD (x18:Int) (again19:(List Str)→(List aN)→Int→Option ((List aN) × Bool)) (x23:(List Str)) (x24:(List aN)):Option ((List aN) × Bool) :=
 (again19 (x23) (x24) ((IntKind.wrap .i64 (x18 + 1))))
def bS (n:Nat) (a1:(List Seg)):Nat→(List Str)→(List aN)→Int→Option ((List aN) × Bool)
 | 0,_,_,_=>none
 | k19 + 1,x15,x16,x18 =>
  (if (decide (x18 < ((a1).length:Int)))=true then ((idx a1 x18).bind fun z27=>(if (z27.Kind == 3)=true then ((kU n x15).bind fun z34=>((app 32 x16 [(aN.mk z27.Text z34)]).bind fun z35=>(some (z35,true)))) else (if (((x15).length:Int) == 0)=true then (if (z27.Kind == 2)=true then (some (x16,true)) else (some ([],false))) else ((idx x15 0).bind fun z44=>((cut x15 1 ((x15).length:Int)).bind fun z45=>(if (z27.Kind != 0)=true then ((app 32 x16 [(aN.mk z27.Text z44)]).bind fun z47=>(eD x18 (bS n a1 k19) (z45) (z47))) else (if (!(z44 == z27.Text))=true then (some ([],false)) else (eD x18 (bS n a1 k19) (z45) (x16))))))))) else (if (decide (0 < ((x15).length:Int)))=true then (some ([],false)) else (some (x16,true))))
def iP (n:Nat) (a1:(List Seg)) (a2:(List Str)):Option ((List aN) × Bool) :=
 ((dh n a1).bind fun z3=>(if (!z3)=true then (some ([],false)) else (bS n a1 n (a2) ([]) (0))))
def gX (a1:pg) (a2:Str):Nat→Int→Option (Str × Bool)
 | 0,_=>none
 | k14 + 1,x13 =>
  (if (decide (x13 < ((a1.Query).length:Int)))=true then ((idx a1.Query x13).bind fun z16=>(if (z16.Name == a2)=true then (some (z16.Value,true)) else ((gX a1 a2 k14) ((IntKind.wrap .i64 (x13 + 1)))))) else (some ([],false)))
def vG (n:Nat) (a1:pg) (a2:Str):Option (Str × Bool) :=
 (gX a1 a2 n (0))
def iQ (n:Nat) (a1:(List aN)) (a2:Str):Option (Str × Bool) :=
 ((vG n (pg.mk [] a1) a2).bind fun z3=>(some (z3.1,z3.2)))
def mH (n:Nat) (a1:Int):Option Int :=
 (if ((decide (48 ≤ a1)) && (decide (a1 ≤ 57)))=true then (some (IntKind.wrap .i64 (IntKind.wrap .u8 (a1 - 48)))) else (if ((decide (97 ≤ a1)) && (decide (a1 ≤ 102)))=true then (some (IntKind.wrap .i64 ((IntKind.wrap .i64 (IntKind.wrap .u8 (a1 - 97))) + 10))) else (if ((decide (65 ≤ a1)) && (decide (a1 ≤ 70)))=true then (some (IntKind.wrap .i64 ((IntKind.wrap .i64 (IntKind.wrap .u8 (a1 - 65))) + 10))) else (some (-1)))))
def gq (x13:Str) (x14:Str) (again15:Str→Str→Option (Str × Bool)) (x20:Int) (x21:Int):Option (Str × Bool) :=
 ((qy x13 x20).bind fun z25=>((cut x14 x21 ((x14).length:Int)).bind fun z26=>(again15 (z25) (z26))))
def dm (n:Nat):Nat→Str→Str→Option (Str × Bool)
 | 0,_,_=>none
 | k15 + 1,x13,x14 =>
  (if (!(x14 == []))=true then ((idx (x14:Str) 0).bind fun z17=>(if ((z17.toNat:Int) == 37)=true then (if (decide (((x14).length:Int) < 3))=true then (some ([],false)) else ((idx (x14:Str) 1).bind fun z29=>((mH n (z29.toNat:Int)).bind fun z30=>((idx (x14:Str) 2).bind fun z31=>((mH n (z31.toNat:Int)).bind fun z32=>(if ((decide (z30 < 0)) || (decide (z32 < 0)))=true then (some ([],false)) else ((Ba .i64 z30 4).bind fun z35=>(gq x13 x14 (dm n k15) ((IntKind.wrap .u8 (Cr .i64 z35 z32))) (3))))))))) else ((mh n (z17.toNat:Int)).bind fun z36=>(if (!z36)=true then (some ([],false)) else (gq x13 x14 (dm n k15) ((z17.toNat:Int)) (1)))))) else (some (x13,true)))
def nD (n:Nat) (a1:Str):Option (Str × Bool) :=
 (dm n n ([]) (a1))
def dD (n:Nat) (z3:(List Str)):Nat→(List Str)→Int→Option ((List Str) × Bool)
 | 0,_,_=>none
 | k16 + 1,x13,x15 =>
  (if (decide (x15 < ((z3).length:Int)))=true then ((idx z3 x15).bind fun z18=>((nD n z18).bind fun z19=>(if ((!z19.2) || (((x13).length:Int) == 8))=true then (some ([],false)) else ((app 16 x13 [z19.1]).bind fun z22=>((dD n z3 k16) (z22) ((IntKind.wrap .i64 (x15 + 1)))))))) else (some (x13,true)))
def jv (n:Nat) (a1:Str):Option ((List Str) × Bool) :=
 (if (a1 == [])=true then (some ([],true)) else ((strings_Split n a1 [47]).bind fun z3=>(dD n z3 n ([]) (0))))
def cZ (x14:Int) (again15:(List Str)→Int→Option ((List Str) × Bool)) (x19:(List Str)):Option ((List Str) × Bool) :=
 (again15 (x19) ((IntKind.wrap .i64 (x14 + 1))))
def bD (n:Nat) (a1:(List Seg)) (a2:(List aN)):Nat→(List Str)→Int→Option ((List Str) × Bool)
 | 0,_,_=>none
 | k15 + 1,x12,x14 =>
  (if (decide (x14 < ((a1).length:Int)))=true then ((idx a1 x14).bind fun z22=>((iQ n a2 z22.Text).bind fun z28=>(if (z22.Kind == 0)=true then ((app 16 x12 [z22.Text]).bind fun z30=>(cZ x14 (bD n a1 a2 k15) (z30))) else (if (z22.Kind == 1)=true then (if (!z28.2)=true then (some ([],false)) else ((app 16 x12 [z28.1]).bind fun z36=>(cZ x14 (bD n a1 a2 k15) (z36)))) else (if (z22.Kind == 2)=true then (if z28.2=true then ((app 16 x12 [z28.1]).bind fun z42=>(cZ x14 (bD n a1 a2 k15) (z42))) else (cZ x14 (bD n a1 a2 k15) (x12))) else ((jv n z28.1).bind fun z46=>(if ((!z28.2) || (!z46.2))=true then (some ([],false)) else ((app 16 x12 z46.1).bind fun z49=>(cZ x14 (bD n a1 a2 k15) (z49)))))))))) else (some (x12,true)))
def kR (n:Nat) (a1:(List Seg)) (a2:(List aN)):Option ((List Str) × Bool) :=
 (bD n a1 a2 n ([]) (0))
def lH (n:Nat) (a1:Str) (a2:Int):Option Bool :=
 (some ((decide (a2 ≤ ((a1).length:Int))) && (decide (((a1).length:Int) ≤ 64))))
def fO (n:Nat) (a1:pg):Nat→Int→Option Bool
 | 0,_=>none
 | k28 + 1,x27 =>
  (if (decide (x27 < ((a1.Query).length:Int)))=true then ((idx a1.Query x27).bind fun z30=>((lH n z30.Name 1).bind fun z36=>((if (!z36)=true then some true else ((lH n z30.Value 0).bind fun z37=>(some (!z37)))).bind fun z38=>(if z38=true then (some false) else ((fO n a1 k28) ((IntKind.wrap .i64 (x27 + 1)))))))) else (some true))
def fP (n:Nat) (a1:pg):Nat→Int→Option Bool
 | 0,_=>none
 | k15 + 1,x14 =>
  (if (decide (x14 < ((a1.Path).length:Int)))=true then ((idx a1.Path x14).bind fun z17=>((lH n z17 1).bind fun z18=>(if (!z18)=true then (some false) else ((fP n a1 k15) ((IntKind.wrap .i64 (x14 + 1))))))) else (fO n a1 n (0)))
def oL (n:Nat) (a1:pg):Option Bool :=
 (if ((decide (8 < ((a1.Path).length:Int))) || (decide (8 < ((a1.Query).length:Int))))=true then (some false) else (fP n a1 n (0)))
def dG (n:Nat) (a1:(List aN)) (a2:(List aN)):Nat→Int→Option Bool
 | 0,_=>none
 | k12 + 1,x11 =>
  (if (decide (x11 < ((a1).length:Int)))=true then ((idx a1 x11).bind fun z14=>((iQ n a2 z14.Name).bind fun z20=>(if ((!z20.2) || (!(z20.1 == z14.Value)))=true then (some false) else ((dG n a1 a2 k12) ((IntKind.wrap .i64 (x11 + 1))))))) else (some true))
def jZ (n:Nat) (a1:(List aN)) (a2:(List aN)):Option Bool :=
 (if (((a1).length:Int) != ((a2).length:Int))=true then (some false) else (dG n a1 a2 n (0)))
def iO (n:Nat) (a1:(List Seg)) (a2:(List aN)):Option ((List Str) × Bool) :=
 ((dh n a1).bind fun z3=>(if (!z3)=true then (some ([],false)) else ((kR n a1 a2).bind fun z5=>((if (!z5.2)=true then some true else ((oL n (pg.mk z5.1 [])).bind fun z6=>(some (!z6)))).bind fun z7=>(if z7=true then (some ([],false)) else ((iP n a1 z5.1).bind fun z10=>((if (!z10.2)=true then some true else ((jZ n z10.1 a2).bind fun z11=>(some (!z11)))).bind fun z12=>(if z12=true then (some ([],false)) else (some (z5.1,true))))))))))
def bG (a1:(List Str)) (a2:(List Str)):Nat→Int→Option Bool
 | 0,_=>none
 | k12 + 1,x11 =>
  (if (decide (x11 < ((a1).length:Int)))=true then ((idx a1 x11).bind fun z14=>((idx a2 x11).bind fun z15=>(if (!(z14 == z15))=true then (some false) else ((bG a1 a2 k12) ((IntKind.wrap .i64 (x11 + 1))))))) else (some true))
def eZ (n:Nat) (a1:(List Str)) (a2:(List Str)):Option Bool :=
 (if (((a1).length:Int) != ((a2).length:Int))=true then (some false) else (bG a1 a2 n (0)))
def bB (a1:(List aN)) (a2:(List aN)):Nat→Int→Option Bool
 | 0,_=>none
 | k12 + 1,x11 =>
  (if (decide (x11 < ((a1).length:Int)))=true then ((idx a1 x11).bind fun z14=>((idx a2 x11).bind fun z15=>(if (!(aN.beq z14 z15))=true then (some false) else ((bB a1 a2 k12) ((IntKind.wrap .i64 (x11 + 1))))))) else (some true))
def dY (n:Nat) (a1:(List aN)) (a2:(List aN)):Option Bool :=
 (if (((a1).length:Int) != ((a2).length:Int))=true then (some false) else (bB a1 a2 n (0)))
def bW (n:Nat) (a1:Str) (a2:Str):Option Bool :=
 ((if (decide (((a2).length:Int) ≤ ((a1).length:Int)))=true then ((cut a1 0 ((a2).length:Int)).bind fun z3=>(some (z3 == a2))) else some false).bind fun z4=>(some z4))
def bZ (n:Nat) (a1:Str) (a2:Str):Option Bool :=
 ((if (decide (((a2).length:Int) ≤ ((a1).length:Int)))=true then ((cut a1 (IntKind.wrap .i64 (((a1).length:Int) - ((a2).length:Int))) ((a1).length:Int)).bind fun z3=>(some (z3 == a2))) else some false).bind fun z4=>(some z4))
def bY (n:Nat) (a1:Str) (a2:Str):Option (Str × Bool) :=
 ((bW n a1 a2).bind fun z3=>(if (!z3)=true then (some (a1,false)) else ((cut a1 ((a2).length:Int) ((a1).length:Int)).bind fun z5=>(some (z5,true)))))
def bX (n:Nat) (a1:Str) (a2:Str):Option (Str × Bool) :=
 ((bZ n a1 a2).bind fun z3=>(if (!z3)=true then (some (a1,false)) else ((cut a1 0 (IntKind.wrap .i64 (((a1).length:Int) - ((a2).length:Int)))).bind fun z5=>(some (z5,true)))))
def strings_CutPrefix (n:Nat) (a1:Str) (a2:Str):Option (Str × Bool) :=
 ((bY n a1 a2).bind fun z3=>(some (z3.1,z3.2)))
def strings_CutSuffix (n:Nat) (a1:Str) (a2:Str):Option (Str × Bool) :=
 ((bX n a1 a2).bind fun z3=>(some (z3.1,z3.2)))
def fH (n:Nat) (a1:Str):Option Seg :=
 ((strings_CutPrefix n a1 [42]).bind fun z5=>(if z5.2=true then (some (Seg.mk 3 z5.1)) else ((strings_CutPrefix n a1 [58]).bind fun z9=>(if (!z9.2)=true then (some (Seg.mk 0 a1)) else ((strings_CutSuffix n z9.1 [63]).bind fun z13=>(if z13.2=true then (some (Seg.mk 2 z13.1)) else (some (Seg.mk 1 z9.1))))))))
def bI (n:Nat) (z5:(List Str)):Nat→(List Seg)→Int→Option ((List Seg) × Bool)
 | 0,_,_=>none
 | k18 + 1,x15,x17 =>
  (if (decide (x17 < ((z5).length:Int)))=true then ((idx z5 x17).bind fun z20=>(if (((x15).length:Int) == 8)=true then (some ([],false)) else ((fH n z20).bind fun z22=>((app 24 x15 [z22]).bind fun z23=>((bI n z5 k18) (z23) ((IntKind.wrap .i64 (x17 + 1)))))))) else ((dh n x15).bind fun z27=>(if (!z27)=true then (some ([],false)) else (some (x15,true)))))
def cO (n:Nat) (a1:Str):Option ((List Seg) × Bool) :=
 (if (a1 == [47])=true then (some ([],true)) else ((strings_CutPrefix n a1 [47]).bind fun z3=>(if (!z3.2)=true then (some ([],false)) else ((strings_Split n z3.1 [47]).bind fun z5=>(bI n z5 n ([]) (0))))))
def dI (n:Nat)  : Option Bool :=
 ((cO n [47,97,47,58,105,100,47,42,114,101,115,116]).bind fun z1=>((iP n z1.1 ([[97],[55],[120,32,121],[122]]:List Str)).bind fun z2=>((iO n z1.1 [(aN.mk [114,101,115,116] [120,37,50,48,121,47,122]),(aN.mk [105,100] [55])]).bind fun z3=>((iO n z1.1 [(aN.mk [105,100] []),(aN.mk [114,101,115,116] [])]).bind fun z4=>((cO n [47,97,47,58,120,47,58,120]).bind fun z5=>((if (z1.2 && z2.2)=true then ((dY n z2.1 [(aN.mk [105,100] [55]),(aN.mk [114,101,115,116] [120,37,50,48,121,47,122])]).bind fun z7=>(some z7)) else some false).bind fun z8=>((if (z8 && z3.2)=true then ((eZ n z3.1 ([[97],[55],[120,32,121],[122]]:List Str)).bind fun z11=>(some z11)) else some false).bind fun z12=>(some ((z12 && (!z4.2)) && (!z5.2))))))))))
def bO (x17:Int) (again18:Str→Int→Option Str) (x22:Str):Option Str :=
 (again18 (x22) ((IntKind.wrap .i64 (x17 + 1))))
def aT (a1:(List Seg)):Nat→Str→Int→Option Str
 | 0,_,_=>none
 | k18 + 1,x16,x17 =>
  (if (decide (x17 < ((a1).length:Int)))=true then ((idx a1 x17).bind fun z24=>((qy x16 47).bind fun z32=>(if (z24.Kind == 0)=true then ((vg z32 z24.Text).bind fun z36=>(bO x17 (aT a1 k18) (z36))) else (if (z24.Kind == 1)=true then ((cat [58] z24.Text).bind fun z38=>((vg z32 z38).bind fun z41=>(bO x17 (aT a1 k18) (z41)))) else (if (z24.Kind == 2)=true then ((cat [58] z24.Text).bind fun z43=>((cat z43 [63]).bind fun z44=>((vg z32 z44).bind fun z47=>(bO x17 (aT a1 k18) (z47))))) else ((cat [42] z24.Text).bind fun z48=>((vg z32 z48).bind fun z51=>(bO x17 (aT a1 k18) (z51))))))))) else (some x16))
def dM (n:Nat) (a1:(List Seg)):Option Str :=
 ((dh n a1).bind fun z2=>(if (!z2)=true then (some []) else (if (((a1).length:Int) == 0)=true then (some [47]) else (aT a1 n ([]) (0)))))
def aP (a1:(List Seg)) (a2:(List Seg)):Nat→Int→Option Bool
 | 0,_=>none
 | k12 + 1,x11 =>
  (if (decide (x11 < ((a1).length:Int)))=true then ((idx a1 x11).bind fun z14=>((idx a2 x11).bind fun z15=>(if (!(Seg.beq z14 z15))=true then (some false) else ((aP a1 a2 k12) ((IntKind.wrap .i64 (x11 + 1))))))) else (some true))
def bg (n:Nat) (a1:(List Seg)) (a2:(List Seg)):Option Bool :=
 (if (((a1).length:Int) != ((a2).length:Int))=true then (some false) else (aP a1 a2 n (0)))
def dH (n:Nat) (a1:bq) (a2:bq) (a3:(List Seg)) (a4:Str):Option Bool :=
 ((bN n a1).bind fun z11=>((bN n a2).bind fun z12=>((dM n z11).bind fun z13=>((dM n z12).bind fun z14=>((cO n z13).bind fun z15=>((if (!z15.2)=true then some true else ((bg n z15.1 z11).bind fun z16=>(some (!z16)))).bind fun z17=>((if z17=true then some true else ((bg n z11 z12).bind fun z19=>(some (!((z13 == z14) == z19))))).bind fun z20=>(if z20=true then (some false) else ((cut a3 0 (ym ((a3).length:Int) 9)).bind fun z23=>((dM n z23).bind fun z24=>((cO n z24).bind fun z25=>((dh n z23).bind fun z26=>((if (!(z26 == (!(z24 == []))))=true then some true else ((dh n z23).bind fun z27=>(some (!(z25.2 == z27))))).bind fun z28=>((if z28=true then some true else ((if z25.2=true then ((bg n z25.1 z23).bind fun z30=>(some (!z30))) else some false).bind fun z31=>(some z31))).bind fun z31=>(if z31=true then (some false) else ((cut a4 0 (ym ((a4).length:Int) 40)).bind fun z36=>((cO n z36).bind fun z37=>((dM n z37.1).bind fun z38=>((if ((z37.2 == ((z38 == z36) && (!(z36 == [])))) && (z37.2 || (((z37.1).length:Int) == 0)))=true then ((dI n).bind fun z42=>(some z42)) else some false).bind fun z43=>(some z43))))))))))))))))))))
end Pr
end Go.Ev

namespace Go.Ev
theorem ah.r {t:Nat} {x:AV} {e2 e:Env} (h:AL.get e t=some x) (k:ah e2 e):ah ((t,x) :: e2) e:=.cons h (.refl _) k
theorem j3.o {x:AV} {a b:List (Option AV)} (k:j3 a b):j3 (some x :: a) (some x :: b):=.old (.refl _) k
theorem j3.w (x:AV) {a b:List (Option AV)} (k:j3 a b):j3 (some x :: a) (none :: b):=.new k
theorem j3.n {a b:List (Option AV)} (k:j3 a b):j3 (none :: a) (none :: b):=.new k
theorem j3.q {x y z u:AV} {a b:List (Option AV)} (k:j3 a b):j3 (some x :: some y :: some z :: some u :: a) (some x :: some y :: some z :: some u :: b):=.o (.o (.o (.o k)))
theorem RL.v {R:aW} {C:dX} {nt:Nat} {ops:Array Oper} {srcs:List Src} {e0:Env} {ws:List (Option AV)} {S:St} {i:Nat} {o:Oper} {x:AV} {e:Env} {os:List Nat} (ho:ops[i]? = some o) (hx:ws[i]? = some (some x)) (he:kJ ws e0 (srcs.getD i [])=some e) (hw:cB ops e o=some true) (h:oper C (fB e) S o.op=some (.val x S)) (k:RL R C nt ops srcs e0 ws S os):RL R C nt ops srcs e0 ws S (i :: os):=.cons ho hx he (.val hw h (.refl _)) k
theorem Has.sl {B S:St} {l:List dB} (h:Has B S l) (is:List Nat) (hn:decide is.Nodup=true) {l':List dB} (hl:is.map (fun i=>l[i]?)=l'.map some):Has B S l':=h.DC is (of_decide_eq_true hn) hl
namespace Pr
set_option linter.unusedVariables false
set_option linter.unusedSimpArgs false
open Go.Proofs
noncomputable def cfg:dX:={ P:=Tryd.prog,good:=fun _=>true,rowT:=fun _=>false,prim:=fun _ _ _=>none,objT:=fun t=>bif Nat.beq t 70 then some (1,.str []) else none,hasPrim:=fun _=>false }
theorem Ct:(Tryd.f18.name == "runtime.NumGoroutine")=false:=by kernel_rfl
theorem Bg:(bA cfg.P 23).isSome=true:=by kernel_rfl
theorem A8:bA cfg.P 23=some 3:=by kernel_rfl
theorem Da:(fJ cfg.P 3).isSome=true:=by kernel_rfl
theorem Di:aC cfg.P 3=1:=by kernel_rfl
theorem xN:fJ cfg.P 3=some false:=by kernel_rfl
theorem CF:(Tryd.f22.name == "runtime.NumGoroutine")=false:=by kernel_rfl
theorem oh:cfg.rowT 28=false:=by kernel_rfl
theorem je:bA cfg.P 28=some 9:=by kernel_rfl
theorem lN:fJ cfg.P 9=some false:=by kernel_rfl
theorem Au:zeroOf cfg.P 9=some (.str []):=by kernel_rfl
theorem mZ:aC cfg.P 9=1:=by kernel_rfl
theorem xg:eU cfg.P 25 0=some (0,23):=by kernel_rfl
theorem zm:Nat.beq (aC cfg.P 23) 0=false:=by kernel_rfl
theorem za:fJ cfg.P 23=some false:=by kernel_rfl
theorem wU:cfg.P.follows .mixedOrders=true:=by kernel_rfl
theorem zC:eU cfg.P 25 1=some (1,23):=by kernel_rfl
theorem o6:(bA cfg.P 28).isSome=true:=by kernel_rfl
theorem zT:(fJ cfg.P 9).isSome=true:=by kernel_rfl
theorem mK:zeroOf cfg.P 47=some (.agg [.int .i64 0,.str []]):=by kernel_rfl
theorem yB:cfg.objT 47=none:=by kernel_rfl
theorem fD:aC cfg.P 47=2:=by kernel_rfl
theorem mJ:(fJ cfg.P 47).isSome=true:=by kernel_rfl
theorem jA:eU cfg.P 47 0=some (0,3):=by kernel_rfl
theorem yU:Nat.beq (aC cfg.P 3) 0=false:=by kernel_rfl
theorem Dm:(cfg.P.underlying 3).isSome=true:=by kernel_rfl
theorem Dj:wX cfg.P 5=some .u8:=by kernel_rfl
theorem Ce:cfg.rowT 56=false:=by kernel_rfl
theorem Dc:bA cfg.P 56=some 5:=by kernel_rfl
theorem Du:fJ cfg.P 5=some false:=by kernel_rfl
theorem Dy:zeroOf cfg.P 5=some (.int .u8 0):=by kernel_rfl
theorem Dp:aC cfg.P 5=1:=by kernel_rfl
theorem Cj:l8 cfg 56=true:=by kernel_rfl
theorem nV:lF cfg.P 9=true:=by kernel_rfl
theorem iJ:eU cfg.P 47 1=some (1,9):=by kernel_rfl
theorem uN:Nat.beq (aC cfg.P 9) 0=false:=by kernel_rfl
theorem nu:fJ cfg.P 47=some true:=by kernel_rfl
theorem yN:cfg.rowT 22=false:=by kernel_rfl
theorem nE:bA cfg.P 22=some 47:=by kernel_rfl
theorem AP:gB cfg 22=true:=by kernel_rfl
theorem AZ:bytesOf cfg.P 47=24:=by kernel_rfl
theorem AR:fF cfg 47=true:=by kernel_rfl
theorem Bh:eU cfg.P 25 2=some (2,3):=by kernel_rfl
theorem Dr:(Tryd.f6.name == "runtime.NumGoroutine")=false:=by kernel_rfl
theorem BM:zeroOf cfg.P 32=some (.agg [.bK,.bK]):=by kernel_rfl
theorem zF:eU cfg.P 32 0=some (0,28):=by kernel_rfl
theorem BJ:Nat.beq (aC cfg.P 28) 0=false:=by kernel_rfl
theorem BI:fJ cfg.P 28=some false:=by kernel_rfl
theorem yJ:gB cfg 28=true:=by kernel_rfl
theorem Bt:bytesOf cfg.P 9=16:=by kernel_rfl
theorem Bu:fF cfg 9=true:=by kernel_rfl
theorem xR:eU cfg.P 32 1=some (1,29):=by kernel_rfl
theorem Bj:Nat.beq (aC cfg.P 29) 0=false:=by kernel_rfl
theorem Aw:fJ cfg.P 29=some false:=by kernel_rfl
theorem mI:zeroOf cfg.P 42=some (.agg [.str [],.str []]):=by kernel_rfl
theorem xP:cfg.rowT 29=false:=by kernel_rfl
theorem qo:bA cfg.P 29=some 42:=by kernel_rfl
theorem sN:fJ cfg.P 42=some true:=by kernel_rfl
theorem jJ:aC cfg.P 42=2:=by kernel_rfl
theorem BL:gB cfg 29=true:=by kernel_rfl
theorem BO:bytesOf cfg.P 42=32:=by kernel_rfl
theorem BA:fF cfg 42=true:=by kernel_rfl
theorem Cq:(Tryd.f32.name == "runtime.NumGoroutine")=false:=by kernel_rfl
theorem Cn:(Tryd.f33.name == "runtime.NumGoroutine")=false:=by kernel_rfl
theorem nZ:(bA cfg.P 22).isSome=true:=by kernel_rfl
theorem CK:(Tryd.f50.name == "runtime.NumGoroutine")=false:=by kernel_rfl
theorem CG:(Tryd.f34.name == "runtime.NumGoroutine")=false:=by kernel_rfl
theorem BP:(cfg.P.underlying 47).isSome=true:=by kernel_rfl
theorem Cg:(Tryd.f13.name == "runtime.NumGoroutine")=false:=by kernel_rfl
theorem Cy:(Tryd.f55.name == "runtime.NumGoroutine")=false:=by kernel_rfl
theorem AY:cfg.objT 70=some (1,.str []):=by kernel_rfl
theorem Cv:(Tryd.f42.name == "runtime.NumGoroutine")=false:=by kernel_rfl
theorem De:(Tryd.f23.name == "runtime.NumGoroutine")=false:=by kernel_rfl
theorem C8:(cfg.P.underlying 9).isSome=true:=by kernel_rfl
theorem Dq:(Tryd.f8.name == "runtime.NumGoroutine")=false:=by kernel_rfl
theorem u7:(bA cfg.P 29).isSome=true:=by kernel_rfl
theorem wF:(fJ cfg.P 42).isSome=true:=by kernel_rfl
theorem A9:cfg.objT 42=none:=by kernel_rfl
theorem xE:eU cfg.P 42 0=some (0,9):=by kernel_rfl
theorem xA:eU cfg.P 42 1=some (1,9):=by kernel_rfl
theorem Cm:(Tryd.f57.name == "runtime.NumGoroutine")=false:=by kernel_rfl
theorem Cz:(Tryd.f45.name == "runtime.NumGoroutine")=false:=by kernel_rfl
theorem Ck:(cfg.P.underlying 5).isSome=true:=by kernel_rfl
theorem Dh:wX cfg.P 3=some .i64:=by kernel_rfl
theorem Db:(Tryd.f74.name == "runtime.NumGoroutine")=false:=by kernel_rfl
theorem Df:(Tryd.f58.name == "runtime.NumGoroutine")=false:=by kernel_rfl
theorem Cc:(Tryd.f46.name == "runtime.NumGoroutine")=false:=by kernel_rfl
theorem Cf:(Tryd.f25.name == "runtime.NumGoroutine")=false:=by kernel_rfl
theorem Cb:(Tryd.f47.name == "runtime.NumGoroutine")=false:=by kernel_rfl
theorem Cu:(Tryd.f26.name == "runtime.NumGoroutine")=false:=by kernel_rfl
theorem CY:(Tryd.f27.name == "runtime.NumGoroutine")=false:=by kernel_rfl
theorem C9:(Tryd.f10.name == "runtime.NumGoroutine")=false:=by kernel_rfl
theorem CO:(Tryd.f12.name == "runtime.NumGoroutine")=false:=by kernel_rfl
theorem CR:(Tryd.f15.name == "runtime.NumGoroutine")=false:=by kernel_rfl
theorem Co:(Tryd.f67.name == "runtime.NumGoroutine")=false:=by kernel_rfl
theorem Ca:(Tryd.f82.name == "runtime.NumGoroutine")=false:=by kernel_rfl
theorem CL:(Tryd.f52.name == "runtime.NumGoroutine")=false:=by kernel_rfl
theorem CQ:(Tryd.f71.name == "runtime.NumGoroutine")=false:=by kernel_rfl
theorem CP:(Tryd.f39.name == "runtime.NumGoroutine")=false:=by kernel_rfl
theorem Cw:(Tryd.f54.name == "runtime.NumGoroutine")=false:=by kernel_rfl
theorem CS:(Tryd.f41.name == "runtime.NumGoroutine")=false:=by kernel_rfl
theorem nm20:(Tryd.f20.name == "runtime.NumGoroutine")=false:=by kernel_rfl
theorem CB:(Tryd.f16.name == "runtime.NumGoroutine")=false:=by kernel_rfl
theorem Cs:(Tryd.f19.name == "runtime.NumGoroutine")=false:=by kernel_rfl
theorem Ch:(Tryd.f21.name == "runtime.NumGoroutine")=false:=by kernel_rfl
theorem BD:fJ cfg.P 25=some true:=by kernel_rfl
theorem BH:aC cfg.P 25=3:=by kernel_rfl
theorem BZ:cfg.P.underlying 4=some .bool:=by kernel_rfl
theorem Dx:(Tryd.f5.name == "runtime.NumGoroutine")=false:=by kernel_rfl
theorem dS:oper.P_place cfg 47=some (rE [(0,1),(1,1)]):=oM (by kernel_rfl)
theorem dF:oper.P_place cfg 42=some (rE [(0,1),(1,1)]):=oM (by kernel_rfl)
theorem lY:oper.P_place cfg 32=some (rE [(0,1),(1,1)]):=oM (by kernel_rfl)
theorem Bz (x y:aN):AV.eqv cfg.P 42 (.d (.agg [(.str x.Name),(.str x.Value)])) (.d (.agg [(.str y.Name),(.str y.Value)]))=some (aN.beq x y) :=
 wE (by kernel_rfl) Tryd.underlying42 (by kernel_rfl) (by kernel_rfl)
theorem BF (x y:Seg):AV.eqv cfg.P 47 (.d (.agg [(.int .i64 x.Kind),(.str x.Text)])) (.d (.agg [(.int .i64 y.Kind),(.str y.Text)]))=some (Seg.beq x y) :=
 wE (by kernel_rfl) Tryd.underlying47 (by kernel_rfl) (by kernel_rfl)
def Dz:List Src:=[[(1,none)],[(20,some 0)],[(5,none)],[(21,some 1),(22,some 2)],[(23,some 3)],[(24,some 4)],[(3,none)],[(1,none)],[(27,some 7)],[(5,none)],[(28,some 8),(29,some 9)],[(3,none)],[(31,some 11)],[(32,some 12)],[(30,some 10),(33,some 13)],[(26,some 6),(34,some 14)],[(35,some 15)],[(25,some 5),(36,some 16)],[],[(6,some 18),(37,some 17)]]
def Dw:List Src:=[[(6,none)],[(8,none)],[(23,some 1)],[(1,none)],[(25,some 3)],[(24,some 2),(26,some 4)],[(27,some 5)],[(22,some 0),(28,some 6)],[(29,some 7)],[]]
def Dn:List Src:=[[(0,none)],[(18,some 0)],[(19,some 1)],[(0,none)],[(21,some 3)],[(22,some 4)],[(20,some 2)],[(23,some 5)]]
def CX:List Src:=[[(0,none)],[(5,none)],[(17,some 0),(18,some 1)],[(19,some 2)],[(1,none)],[(5,none)],[(21,some 4),(22,some 5)],[(23,some 6)],[(20,some 3),(24,some 7)]]
def Dt:List Src:=[[(4,none)],[(21,some 0)],[(5,none)],[(23,some 2)],[(22,some 1)],[(24,some 3)]]
structure CE (R:aW):Prop where
 obj:jG R cfg
 strings_Split_ok:∀ (n:Nat) (x0:Str) (x1:Str) (r:(List Str)),strings_Split n x0 x1=some r→aV R cfg.P 40 [(.str x0),(.str x1)] (.d (.sl ((r).map D.str) false))
 strings_Join_ok:∀ (n:Nat) (x0:(List Str)) (x1:Str) (r:Str),strings_Join n x0 x1=some r→aV R cfg.P 43 [(.sl ((x0).map D.str) false),(.str x1)] (.d (.str r))
 strings_Trim_ok:∀ (n:Nat) (x0:Str) (x1:Str) (r:Str),iE n x0 x1=some r→aV R cfg.P 49 [(.str x0),(.str x1)] (.d (.str r))
 strings_IndexByte_ok:∀ (n:Nat) (x0:Str) (x1:Int) (r:Int),strings_IndexByte n x0 x1=some r→aV R cfg.P 72 [(.str x0),(.int .u8 x1)] (.d (.int .i64 r))
 bld:uw R cfg.P 36 37 38
section
variable {R:aW} (E:CE R)
include E
set_option maxRecDepth 20000 in
set_option maxHeartbeats 4000000 in
theorem dz (n:Nat) (a1:Int) (a2:Int) (a3:Int) (r:Int) (h:bF n a1 a2 a3=some r):aV R cfg.P 18 [(.int .i64 a1),(.int .i64 a2),(.int .i64 a3)] (.d (.int .i64 r)):=by
 unfold bF at h
 refine aV.of_wp E.obj.toObjOk (C:=cfg) Tryd.func18 rfl Ct rfl ?_
 have H0:Has ax ax []:=Has.pure
 refine aj.seq ?_
 refine aj.region E.obj rfl ?_
 refine ai.val rfl (ae rfl) rfl ?_
 refine ai.nil ?_
 refine aj.seq ?_
 refine aj.region E.obj rfl ?_
 refine ai.val rfl (aa rfl) rfl ?_
 refine ai.val rfl (aa rfl) rfl ?_
 refine ai.val rfl (aa rfl) rfl ?_
 refine ai.val rfl (ak rfl rfl gP) rfl ?_
 refine ai.val rfl (ak rfl rfl bP) rfl ?_
 obtain ⟨z4,hzz4,h⟩:=bind_some h
 refine ai.val rfl (ak rfl rfl (tK hzz4)) rfl ?_
 refine ai.val rfl (ae rfl) rfl ?_
 refine ai.nil ?_
 refine aj.join (B:=ax) (α:=Int) (fun a=>cK a2 a=some r) (fun a=>[(0,(.d (.int .i64 a))),(1,(.d (.int .i64 a2)))]) (fun a=>[]) ?_ ?_
 ·
  intro x7 S5 H6 h
  replace h:cK a2 x7=some r:=h
  replace H6:Has ax S5 []:=H6
  unfold cK at h
  refine aj.seq ?_
  refine aj.region E.obj rfl ?_
  refine ai.val rfl (aa rfl) rfl ?_
  refine ai.val rfl (aa rfl) rfl ?_
  refine ai.val rfl (ak rfl rfl bP) rfl ?_
  refine ai.val rfl (ae rfl) rfl ?_
  refine ai.nil ?_
  have hr:=Option.some.inj h
  subst hr
  exact aj.ret ⟨_,rfl,rfl,dJ (au.eq .nil)⟩
 refine aj.seq ?_
 refine aj.region E.obj rfl ?_
 refine ai.val rfl (aa rfl) rfl ?_
 refine ai.val rfl (ak rfl rfl bV) rfl ?_
 refine ai.nil ?_
 refine aj.cond rfl (fun hb9=>?_) (fun hb9=>?_)
 ·
  replace h:=bz hb9 h
  refine aj.region E.obj rfl ?_
  refine ai.val rfl (aa rfl) rfl ?_
  refine ai.val rfl (aa rfl) rfl ?_
  refine ai.val rfl (ak rfl rfl bP) rfl ?_
  refine ai.val rfl (aa rfl) rfl ?_
  refine ai.val rfl (ak rfl rfl gP) rfl ?_
  refine ai.val rfl (ak rfl rfl bP) rfl ?_
  refine ai.val rfl (ae rfl) rfl ?_
  refine ai.nil ?_
  exact ⟨(IntKind.wrap .i64 ((IntKind.wrap .i64 ((IntKind.wrap .i64 (z4 + a3)) - a2)) + 1)),_,_,ax,.refl _ _,.refl _,(ah.r rfl (ah.r rfl ah.nil)),H0.sl [] rfl rfl,h⟩
 replace h:=bu hb9 h
 refine aj.skip ?_
 exact ⟨z4,_,_,ax,.refl _ _,.refl _,(ah.r rfl (ah.r rfl ah.nil)),H0.sl [] rfl rfl,h⟩
set_option maxRecDepth 20000 in
set_option maxHeartbeats 4000000 in
theorem iY (n:Nat) (a1:(List Int)) (a2:Int) (r:Int) (h:dQ n a1 a2=some r):aV R cfg.P 22 [(.sl ((a1).map (D.int .i64)) false),(.int .i64 a2)] (.d (.int .i64 r)):=by
 unfold dQ at h
 refine aV.of_wp E.obj.toObjOk (C:=cfg) Tryd.func22 rfl CF rfl ?_
 have H0:Has ax ax []:=Has.pure
 refine aj.seq ?_
 refine aj.region E.obj rfl ?_
 refine ai.val rfl (ae rfl) rfl ?_
 refine ai.nil ?_
 refine aj.seq ?_
 refine aj.seq ?_
 refine aj.region E.obj rfl ?_
 refine ai.val rfl (aa rfl) rfl ?_
 refine ai.val rfl (aO rfl Bg) rfl ?_
 refine ai.val rfl (ak rfl rfl dw) rfl ?_
 refine ai.nil ?_
 refine aj.cond rfl (fun hb3=>?_) (fun hb3=>?_)
 ·
  replace h:=bz hb3 h
  refine aj.seq ?_
  refine aj.region E.obj rfl ?_
  refine ai.val rfl (ae rfl) rfl ?_
  refine ai.nil ?_
  have hr:=Option.some.inj h
  subst hr
  exact aj.ret ⟨_,rfl,rfl,dJ (au.eq .nil)⟩
 replace h:=bu hb3 h
 refine aj.skip ?_
 refine aj.seq ?_
 refine aj.region E.obj rfl ?_
 refine ai.val rfl (aa rfl) rfl ?_
 refine ai.val rfl (aa rfl) rfl ?_
 refine ai.val rfl (aa rfl) rfl ?_
 refine ai.val rfl (aO rfl Bg) rfl ?_
 obtain ⟨z4,hzz4,h⟩:=bind_some h
 refine ai.val rfl (ak rfl rfl (tK hzz4)) rfl ?_
 obtain ⟨z5,hzz5,h⟩:=bind_some h
 refine ai.val rfl (bQ rfl rfl (df (enc:=(D.int .i64)) hzz5 A8 Da (((fun _=>rfl) _).trans Di.symm))) rfl ?_
 refine ai.val rfl (aZ rfl (eu xN rfl)) rfl ?_
 refine ai.val rfl (ae rfl) rfl ?_
 refine ai.nil ?_
 have hr:=Option.some.inj h
 subst hr
 exact aj.ret ⟨_,rfl,rfl,dJ (au.eq .nil)⟩
set_option maxRecDepth 20000 in
set_option maxHeartbeats 4000000 in
theorem fT (n:Nat) (a1:bq) (r:(List Seg)) (h:bN n a1=some r):aV R cfg.P 6 [(di a1)] (.d (.sl ((r).map aF) false)):=by
 unfold bN at h
 refine aV.of_wp E.obj.toObjOk (C:=cfg) Tryd.func6 rfl Dr rfl ?_
 have H0:Has ax ax []:=Has.pure
 refine aj.seq ?_
 refine aj.region E.obj rfl ?_
 refine ai.box H0 rfl rfl rfl (bq.eO _) rfl (fun b2 S3 H4=>?_)
 refine ai.val rfl (ae rfl) rfl ?_
 refine ai.nil ?_
 refine aj.seq ?_
 refine aj.region E.obj rfl ?_
 refine ai.val rfl (aU (vs:=[(.d (.str [97])),(.d (.str [98])),(.d (.str [105,116,101,109])),(.d (.str [122])),(.d (.str [49])),(.d (.str [108,105,115,116]))]) (ds:=[(.str [97]),(.str [98]),(.str [105,116,101,109]),(.str [122]),(.str [49]),(.str [108,105,115,116])]) oh je lN Au mZ rfl (by decide) (.cons rfl rfl (.cons rfl rfl (.cons rfl rfl (.cons rfl rfl (.cons rfl rfl (.cons rfl rfl .nil)))))) rfl (by intro d hd; simp only [List.mem_cons,List.not_mem_nil,or_false] at hd; rcases hd with rfl | rfl | rfl | rfl | rfl | rfl <;> rfl) rfl) rfl ?_
 refine ai.val rfl (ae rfl) rfl ?_
 refine ai.nil ?_
 refine aj.seq ?_
 refine aj.region E.obj rfl ?_
 refine ai.val rfl (ae rfl) rfl ?_
 refine ai.nil ?_
 refine aj.seq ?_
 refine aj.seq ?_
 refine aj.region E.obj rfl ?_
 refine ai.val rfl (ae rfl) rfl ?_
 refine ai.nil ?_
 refine aj.block ?_
 have H59:=H4.yO
 refine lC.start (B:=ax) (α:=(List Seg) × AV × Int) (fun k a=>aH n a1 k a.1 a.2.2=some r) (fun a=>[(1,(.ptr b2 0 0)),(3,(.d (.sl ((([[97],[98],[105,116,101,109],[122],[49],[108,105,115,116]]:List Str)).map D.str) true))),(4,a.2.1),(5,(.d (.int .i64 a.2.2)))]) (fun a=>[.box b2 [(.d (.sl ((a1.Kinds).map (D.int .i64)) false)),(.d (.sl ((a1.Texts).map (D.int .i64)) false)),(.d (.int .i64 a1.Last))],.grow a.2.1 ((a.1).map aF)]) ?_ ?_ n ⟨⟨[],(.d .bK),0⟩,_,_,S3,.refl _ _,.refl _,(ah.r rfl (ah.r rfl (ah.r rfl (ah.r rfl ah.nil)))),H59.sl [1,0] rfl rfl,h⟩
 ·
  intro a h; simp [aH] at h
 intro k17 a S12 H13 h
 obtain ⟨x14,v15,x16⟩:=a
 replace h:aH n a1 (k17 + 1) x14 x16=some r:=h
 replace H13:Has ax S12 [.box b2 [(.d (.sl ((a1.Kinds).map (D.int .i64)) false)),(.d (.sl ((a1.Texts).map (D.int .i64)) false)),(.d (.int .i64 a1.Last))],.grow v15 ((x14).map aF)]:=H13
 unfold aH at h
 refine aj.seq ?_
 refine aj.seq ?_
 refine aj.region E.obj rfl ?_
 refine ai.val rfl (aa rfl) rfl ?_
 refine ai.val rfl (az rfl xg zm rfl) rfl ?_
 refine ai.val rfl (aL H13 (i:=0) rfl rfl (aR za rfl)) rfl ?_
 refine ai.val rfl (aO rfl Bg) rfl ?_
 refine ai.val rfl (ak rfl rfl bV) rfl ?_
 refine ai.val rfl (aa rfl) rfl ?_
 refine ai.bE 3 17 (.d (.bool ((decide (x16 < ((a1.Kinds).length:Int))) && (decide (x16 < 4))))) ?_ ?_
 ·
  rcases Bool.eq_false_or_eq_true ((decide (x16 < ((a1.Kinds).length:Int)))) with hB18 | hB18
  ·
   refine ai.bool hB18 ?_
   refine ai.val rfl (aa rfl) rfl ?_
   refine ai.val rfl (ak rfl rfl bV) rfl ?_
   refine ai.val rfl (av (b:=true) rfl rfl) rfl ?_
   exact ai.nil ⟨_,rfl,(ah.put (ah.push rfl (ah.push rfl (ah.put (.refl _) (Less.eq (by rw [hB18]))))) (Less.eq (by rw [hB18]; rw [Bool.true_and])))⟩
  refine ai.bool hB18 ?_
  refine ai.no rfl rfl ?_
  refine ai.no rfl rfl ?_
  refine ai.val rfl (av (b:=false) rfl rfl) rfl ?_
  exact ai.nil ⟨_,rfl,(ah.put (ah.push rfl (ah.push rfl (ah.put (.refl _) (Less.eq (by rw [hB18]))))) (Less.eq (by rw [hB18]; rw [Bool.false_and])))⟩
 refine ai.nil ?_
 refine aj.cond rfl (fun hb19=>?_) (fun hb19=>?_)
 ·
  replace h:=bz hb19 h
  refine aj.skip ?_
  refine aj.seq ?_
  refine aj.block ?_
  refine aj.seq ?_
  obtain ⟨z20,hzz20,h⟩:=bind_some h
  obtain ⟨z21,hzz21,h⟩:=bind_some h
  obtain ⟨z22,hzz22,h⟩:=bind_some h
  obtain ⟨z23,hzz23,h⟩:=bind_some h
  obtain ⟨z24,hzz24,h⟩:=bind_some h
  refine aj.qV E.obj wU Dz [(1,none),(3,none),(4,none),(5,none),(6,some 18)] (by kernel_rfl) [18,19] (by decide) [some (.ptr b2 0 0),some (.d (.sl ((a1.Kinds).map (D.int .i64)) false)),some (.d (.int .i64 x16)),some (.eptr (.int .i64 z20) 0),some (.d (.int .i64 z20)),some (.d (.int .i64 z21)),some (.d (.sl ((([[97],[98],[105,116,101,109],[122],[49],[108,105,115,116]]:List Str)).map D.str) true)),some (.ptr b2 0 1),some (.d (.sl ((a1.Texts).map (D.int .i64)) false)),some (.d (.int .i64 x16)),some (.d (.int .i64 z22)),some (.d (.sl ((([[97],[98],[105,116,101,109],[122],[49],[108,105,115,116]]:List Str)).map D.str) true)),some (.d (.int .i64 ((([[97],[98],[105,116,101,109],[122],[49],[108,105,115,116]]:List Str)).length:Int))),some (.d (.int .i64 (IntKind.wrap .i64 (((([[97],[98],[105,116,101,109],[122],[49],[108,105,115,116]]:List Str)).length:Int) - 1)))),some (.d (.int .i64 z23)),some (.eptr (.str z24) 0),some (.d (.str z24)),some (.d (aF (Seg.mk z21 z24))),none,none] ?_
  refine ⟨[0,1,2,3,4,5,6,7,8,9,10,11,12,13,14,15,16,17],by kernel_rfl,?_,_,_,rfl,rfl,.step ?_⟩
  ·
   refine .v rfl rfl rfl rfl (az rfl xg zm rfl) ?_
   refine .v rfl rfl rfl rfl (aL H13 (i:=0) rfl rfl (aR za rfl)) ?_
   refine .v rfl rfl rfl rfl (aa rfl) ?_
   refine .v rfl rfl rfl rfl (bQ rfl rfl (df (enc:=(D.int .i64)) hzz20 A8 Da (((fun _=>rfl) _).trans Di.symm))) ?_
   refine .v rfl rfl rfl rfl (aZ rfl (eu xN rfl)) ?_
   refine .cons rfl rfl rfl (.step ?_) ?_
   ·
    refine ai.ret rfl (ay rfl rfl) (dz E _ _ _ _ _ hzz21 _ _ (au.eq (au.eq (au.eq .nil)))) rfl ?_
    exact ai.nil ⟨_,_,rfl,fun _ ht=>by cases ht; exact ⟨rfl,.refl _⟩⟩
   refine .v rfl rfl rfl rfl (aa rfl) ?_
   refine .v rfl rfl rfl rfl (az rfl zC zm rfl) ?_
   refine .v rfl rfl rfl rfl (aL H13 (i:=0) rfl rfl (aR za rfl)) ?_
   refine .v rfl rfl rfl rfl (aa rfl) ?_
   refine .cons rfl rfl rfl (.step ?_) ?_
   ·
    refine ai.ret rfl (ay rfl rfl) (iY E _ _ _ _ hzz22 _ _ (au.eq (au.eq .nil))) rfl ?_
    exact ai.nil ⟨_,_,rfl,fun _ ht=>by cases ht; exact ⟨rfl,.refl _⟩⟩
   refine .v rfl rfl rfl rfl (aa rfl) ?_
   refine .v rfl rfl rfl rfl (aO rfl o6) ?_
   refine .v rfl rfl rfl rfl (ak rfl rfl gP) ?_
   refine .cons rfl rfl rfl (.step ?_) ?_
   ·
    refine ai.ret rfl (ay rfl rfl) (dz E _ _ _ _ _ hzz23 _ _ (au.eq (au.eq (au.eq .nil)))) rfl ?_
    exact ai.nil ⟨_,_,rfl,fun _ ht=>by cases ht; exact ⟨rfl,.refl _⟩⟩
   refine .v rfl rfl rfl rfl (bQ rfl rfl (df (enc:=D.str) hzz24 je zT (((fun _=>rfl) _).trans mZ.symm))) ?_
   refine .v rfl rfl rfl rfl (aZ rfl (eu lN rfl)) ?_
   refine .cons rfl rfl rfl (.step ?_) ?_
   ·
    refine ai.val rfl (bU (cs:=[(.d (.int .i64 z21)),(.d (.str z24))]) mK rfl (dS) (eG rfl rfl rfl rfl (eG rfl rfl rfl rfl rfl))) rfl ?_
    refine ai.less (Less.agg' (d:=aF (Seg.mk z21 z24)) (aQ.eq rfl (aQ.eq rfl .nil)) ((Seg.eq _).trans rfl)) ?_
    exact ai.nil ⟨_,_,rfl,fun _ ht=>by cases ht; exact ⟨rfl,.refl _⟩⟩
   exact .nil
  refine ai.alloc H13 rfl yB mK rfl rfl (fun b30 S31 H32=>?_)
  refine ai.nil ⟨_,_,_,rfl,(fun _ ht=>by cases ht; rfl),_,(.q (.q (.q (.q (.o (.o (.w (.ptr b30 0 0) (.n .nil)))))))),(fun _ ht=>by cases ht; exact ⟨_,rfl,.refl _⟩),?_⟩
  refine ⟨[0,1,2,3,4,5,6,7,8,9,10,11,12,13,14,15,16,17],by kernel_rfl,?_,_,_,rfl,rfl,.step ?_⟩
  ·
   refine .v rfl rfl rfl rfl (az rfl xg zm rfl) ?_
   refine .v rfl rfl rfl rfl (aL H32 (i:=1) rfl rfl (aR za rfl)) ?_
   refine .v rfl rfl rfl rfl (aa rfl) ?_
   refine .v rfl rfl rfl rfl (bQ rfl rfl (df (enc:=(D.int .i64)) hzz20 A8 Da (((fun _=>rfl) _).trans Di.symm))) ?_
   refine .v rfl rfl rfl rfl (aZ rfl (eu xN rfl)) ?_
   refine .cons rfl rfl rfl (.step ?_) ?_
   ·
    refine ai.ret rfl (ay rfl rfl) (dz E _ _ _ _ _ hzz21 _ _ (au.eq (au.eq (au.eq .nil)))) rfl ?_
    exact ai.nil ⟨_,_,rfl,fun _ ht=>by cases ht; exact ⟨rfl,.refl _⟩⟩
   refine .v rfl rfl rfl rfl (aa rfl) ?_
   refine .v rfl rfl rfl rfl (az rfl zC zm rfl) ?_
   refine .v rfl rfl rfl rfl (aL H32 (i:=1) rfl rfl (aR za rfl)) ?_
   refine .v rfl rfl rfl rfl (aa rfl) ?_
   refine .cons rfl rfl rfl (.step ?_) ?_
   ·
    refine ai.ret rfl (ay rfl rfl) (iY E _ _ _ _ hzz22 _ _ (au.eq (au.eq .nil))) rfl ?_
    exact ai.nil ⟨_,_,rfl,fun _ ht=>by cases ht; exact ⟨rfl,.refl _⟩⟩
   refine .v rfl rfl rfl rfl (aa rfl) ?_
   refine .v rfl rfl rfl rfl (aO rfl o6) ?_
   refine .v rfl rfl rfl rfl (ak rfl rfl gP) ?_
   refine .cons rfl rfl rfl (.step ?_) ?_
   ·
    refine ai.ret rfl (ay rfl rfl) (dz E _ _ _ _ _ hzz23 _ _ (au.eq (au.eq (au.eq .nil)))) rfl ?_
    exact ai.nil ⟨_,_,rfl,fun _ ht=>by cases ht; exact ⟨rfl,.refl _⟩⟩
   refine .v rfl rfl rfl rfl (bQ rfl rfl (df (enc:=D.str) hzz24 je zT (((fun _=>rfl) _).trans mZ.symm))) ?_
   refine .v rfl rfl rfl rfl (aZ rfl (eu lN rfl)) ?_
   refine .cons rfl rfl rfl (.step ?_) ?_
   ·
    refine ai.val rfl (bU (cs:=[(.d (.int .i64 z21)),(.d (.str z24))]) mK rfl (dS) (eG rfl rfl rfl rfl (eG rfl rfl rfl rfl rfl))) rfl ?_
    refine ai.less (Less.agg' (d:=aF (Seg.mk z21 z24)) (aQ.eq rfl (aQ.eq rfl .nil)) ((Seg.eq _).trans rfl)) ?_
    exact ai.nil ⟨_,_,rfl,fun _ ht=>by cases ht; exact ⟨rfl,.refl _⟩⟩
   exact .nil
  refine ai.store H32 (i:=0) rfl rfl rfl rfl (Seg.eO _) rfl fD rfl mJ rfl rfl rfl (fun S33 H34=>?_)
  refine ai.nil ⟨_,.any,_,rfl,(fun _ ht=>by cases ht),_,(.q (.q (.q (.q (.o (.o (.o (.w .any .nil)))))))),(fun _ ht=>by cases ht),?_⟩
  refine ⟨[],by kernel_rfl,?_,_,rfl,?_⟩
  ·
   exact .nil
  refine aj.join (B:=ax) (α:=Str) (fun a=>aY x14 x16 (aH n a1 k17) z21 z24 a=some r) (fun a=>[(1,(.ptr b2 0 0)),(3,(.d (.sl ((([[97],[98],[105,116,101,109],[122],[49],[108,105,115,116]]:List Str)).map D.str) true))),(4,v15),(5,(.d (.int .i64 x16))),(6,(.ptr b30 0 0))]) (fun a=>[.box b30 [(.d (.int .i64 (Seg.mk z21 z24).Kind)),(.d (.str a))],.box b2 [(.d (.sl ((a1.Kinds).map (D.int .i64)) false)),(.d (.sl ((a1.Texts).map (D.int .i64)) false)),(.d (.int .i64 a1.Last))],.grow v15 ((x14).map aF)]) ?_ ?_
  ·
   intro x37 S35 H36 h
   replace h:aY x14 x16 (aH n a1 k17) z21 z24 x37=some r:=h
   replace H36:Has ax S35 [.box b30 [(.d (.int .i64 (Seg.mk z21 z24).Kind)),(.d (.str x37))],.box b2 [(.d (.sl ((a1.Kinds).map (D.int .i64)) false)),(.d (.sl ((a1.Texts).map (D.int .i64)) false)),(.d (.int .i64 a1.Last))],.grow v15 ((x14).map aF)]:=H36
   unfold aY at h
   refine aj.region E.obj rfl ?_
   refine ai.val rfl (aa rfl) rfl ?_
   refine ai.val rfl (aL H36 (i:=0) rfl rfl (jr nu fD rfl)) rfl ?_
   refine ai.less (Less.agg' (d:=aF (Seg.mk ((Seg.mk z21 z24).Kind) x37)) (aQ.eq rfl (aQ.eq rfl .nil)) ((Seg.eq _).trans rfl)) ?_
   refine ai.val rfl (aU (vs:=[(.d (aF (Seg.mk ((Seg.mk z21 z24).Kind) x37)))]) (ds:=[(aF (Seg.mk ((Seg.mk z21 z24).Kind) x37))]) yN nE nu mK fD rfl (by decide) (.cons rfl (Seg.len _) .nil) rfl (by intro d hd; simp only [List.mem_cons,List.not_mem_nil,or_false] at hd; rcases hd with rfl <;> exact Seg.agg _) rfl) rfl ?_
   obtain ⟨z39,hzz39,h⟩:=bind_some h
   refine ai.append (xs:=(x14).map aF) (ys:=([(Seg.mk ((Seg.mk z21 z24).Kind) x37)]).map aF) (zs:=(z39).map aF) H36 rfl rfl rfl (i:=2) rfl rfl yN AP nE (fq hzz39) AZ rfl (bJ (enc:=aF) (fun z=>(Seg.len z).trans fD.symm) _) (bJ (enc:=aF) (fun z=>(Seg.len z).trans fD.symm) _) AR rfl (jw hzz39) (fun v40 S41 H42=>?_)
   refine ai.val rfl (ae rfl) rfl ?_
   refine ai.nil ?_
   refine aj.region E.obj rfl ?_
   refine ai.val rfl (aa rfl) rfl ?_
   refine ai.val rfl (ak rfl rfl bP) rfl ?_
   refine ai.val rfl (ae rfl) rfl ?_
   refine ai.nil ?_
   exact ⟨⟨z39,v40,(IntKind.wrap .i64 (x16 + 1))⟩,_,_,S41,.refl _ _,.refl _,(ah.r rfl (ah.r rfl (ah.r rfl (ah.r rfl ah.nil)))),H42.sl [1,2] rfl rfl,h⟩
  refine aj.seq ?_
  refine aj.region E.obj rfl ?_
  refine ai.val rfl (az rfl jA yU rfl) rfl ?_
  refine ai.val rfl (aL H34 (i:=0) rfl rfl (aR xN rfl)) rfl ?_
  refine ai.val rfl (ak rfl rfl dw) rfl ?_
  refine ai.nil ?_
  refine aj.cond rfl (fun hb43=>?_) (fun hb43=>?_)
  ·
   replace h:=bz hb43 h
   refine aj.region E.obj rfl ?_
   refine ai.val rfl (aa rfl) rfl ?_
   refine ai.val rfl (ak rfl rfl bP) rfl ?_
   refine ai.val rfl (gQ rfl Dm Dj) rfl ?_
   refine ai.val rfl (aU (vs:=[(.d (.int .u8 (IntKind.wrap .u8 (IntKind.wrap .i64 (48 + x16)))))]) (ds:=[(.int .u8 (IntKind.wrap .u8 (IntKind.wrap .i64 (48 + x16))))]) Ce Dc Du Dy Dp rfl (by decide) (.cons rfl rfl .nil) rfl (by intro d hd; simp only [List.mem_cons,List.not_mem_nil,or_false] at hd; rcases hd with rfl <;> rfl) rfl) rfl ?_
   refine ai.val rfl (qx (l:=[(IntKind.wrap .u8 (IntKind.wrap .i64 (48 + x16)))]) rfl nV Cj) rfl ?_
   obtain ⟨z44,hzz44,h⟩:=bind_some h
   refine ai.val rfl (ak rfl rfl (ky hzz44)) rfl ?_
   refine ai.val rfl (az rfl iJ uN rfl) rfl ?_
   refine ai.store H34 (i:=0) rfl rfl rfl rfl rfl rfl mZ rfl zT rfl rfl rfl (fun S45 H46=>?_)
   refine ai.nil ?_
   exact ⟨z44,_,_,S45,.refl _ _,.refl _,(ah.r rfl (ah.r rfl (ah.r rfl (ah.r rfl (ah.r rfl ah.nil))))),H46.sl [0,1,2] rfl rfl,h⟩
  replace h:=bu hb43 h
  refine aj.skip ?_
  exact ⟨(Seg.mk z21 z24).Text,_,_,S33,.refl _ _,.refl _,(ah.r rfl (ah.r rfl (ah.r rfl (ah.r rfl (ah.r rfl ah.nil))))),H34.sl [0,1,2] rfl rfl,h⟩
 replace h:=bu hb19 h
 refine aj.exit ?_
 refine aj.join (B:=ax) (α:=(List Seg) × AV) (fun a=>bC a.1=some r) (fun a=>[(4,a.2)]) (fun a=>[.grow a.2 ((a.1).map aF)]) ?_ ?_
 ·
  intro a S47 H48 h
  obtain ⟨x49,v50⟩:=a
  replace h:bC x49=some r:=h
  replace H48:Has ax S47 [.grow v50 ((x49).map aF)]:=H48
  unfold bC at h
  refine aj.seq ?_
  refine aj.region E.obj rfl ?_
  refine ai.val rfl (aa rfl) rfl ?_
  refine ai.val rfl (ae rfl) rfl ?_
  refine ai.nil ?_
  have hr:=Option.some.inj h
  subst hr
  exact aj.ret ⟨_,rfl,rfl,dJ (au.grow H48 (i:=0) rfl .nil)⟩
 refine aj.seq ?_
 refine aj.region E.obj rfl ?_
 refine ai.val rfl (az rfl Bh yU rfl) rfl ?_
 refine ai.val rfl (aL H13 (i:=0) rfl rfl (aR xN rfl)) rfl ?_
 obtain ⟨z52,hzz52,h⟩:=bind_some h
 refine ai.ret rfl (ay rfl rfl) (dz E _ _ _ _ _ hzz52 _ _ (au.eq (au.eq (au.eq .nil)))) rfl ?_
 refine ai.val rfl (ae rfl) rfl ?_
 refine ai.nil ?_
 refine aj.seq ?_
 refine aj.region E.obj rfl ?_
 refine ai.val rfl (aa rfl) rfl ?_
 refine ai.val rfl (ak rfl rfl dw) rfl ?_
 refine ai.val rfl (aa rfl) rfl ?_
 refine ai.bE 3 60 (.d (.bool ((z52 == 2) || (z52 == 3)))) ?_ ?_
 ·
  rcases Bool.eq_false_or_eq_true ((z52 == 2)) with hB53 | hB53
  ·
   refine ai.bool hB53 ?_
   refine ai.no rfl rfl ?_
   refine ai.no rfl rfl ?_
   refine ai.val rfl (av (b:=true) rfl rfl) rfl ?_
   exact ai.nil ⟨_,rfl,(ah.put (ah.push rfl (ah.push rfl (ah.put (.refl _) (Less.eq (by rw [hB53]))))) (Less.eq (by rw [hB53]; rw [Bool.true_or])))⟩
  refine ai.bool hB53 ?_
  refine ai.val rfl (aa rfl) rfl ?_
  refine ai.val rfl (ak rfl rfl dw) rfl ?_
  refine ai.val rfl (av (b:=false) rfl rfl) rfl ?_
  exact ai.nil ⟨_,rfl,(ah.put (ah.push rfl (ah.push rfl (ah.put (.refl _) (Less.eq (by rw [hB53]))))) (Less.eq (by rw [hB53]; rw [Bool.false_or])))⟩
 refine ai.nil ?_
 refine aj.cond rfl (fun hb54=>?_) (fun hb54=>?_)
 ·
  replace h:=bz hb54 h
  refine aj.region E.obj rfl ?_
  refine ai.val rfl (aa rfl) rfl ?_
  refine ai.val rfl (aa rfl) rfl ?_
  refine ai.val rfl (bU (cs:=[(.d (.int .i64 z52)),(.d (.str [108,97,115,116]))]) mK rfl (dS) (eG rfl rfl rfl rfl (eG rfl rfl rfl rfl rfl))) rfl ?_
  refine ai.less (Less.agg' (d:=aF (Seg.mk z52 [108,97,115,116])) (aQ.eq rfl (aQ.eq rfl .nil)) ((Seg.eq _).trans rfl)) ?_
  refine ai.val rfl (aU (vs:=[(.d (aF (Seg.mk z52 [108,97,115,116])))]) (ds:=[(aF (Seg.mk z52 [108,97,115,116]))]) yN nE nu mK fD rfl (by decide) (.cons rfl (Seg.len _) .nil) rfl (by intro d hd; simp only [List.mem_cons,List.not_mem_nil,or_false] at hd; rcases hd with rfl <;> exact Seg.agg _) rfl) rfl ?_
  obtain ⟨z55,hzz55,h⟩:=bind_some h
  refine ai.append (xs:=(x14).map aF) (ys:=([(Seg.mk z52 [108,97,115,116])]).map aF) (zs:=(z55).map aF) H13 rfl rfl rfl (i:=1) rfl rfl yN AP nE (fq hzz55) AZ rfl (bJ (enc:=aF) (fun z=>(Seg.len z).trans fD.symm) _) (bJ (enc:=aF) (fun z=>(Seg.len z).trans fD.symm) _) AR rfl (jw hzz55) (fun v56 S57 H58=>?_)
  refine ai.val rfl (ae rfl) rfl ?_
  refine ai.nil ?_
  exact ⟨⟨z55,v56⟩,_,_,S57,.refl _ _,.refl _,(ah.r rfl ah.nil),H58.sl [1] rfl rfl,h⟩
 replace h:=bu hb54 h
 refine aj.skip ?_
 exact ⟨⟨x14,v15⟩,_,_,S12,.refl _ _,.refl _,(ah.r rfl ah.nil),H13.sl [1] rfl rfl,h⟩
set_option maxRecDepth 20000 in
set_option maxHeartbeats 4000000 in
theorem pE (n:Nat) (a1:Str) (r:Bool) (h:gT n a1=some r):aV R cfg.P 32 [(.str a1)] (.d (.bool r)):=by
 unfold gT at h
 refine aV.of_wp E.obj.toObjOk (C:=cfg) Tryd.func32 rfl Cq rfl ?_
 have H0:Has ax ax []:=Has.pure
 refine aj.seq ?_
 refine aj.region E.obj rfl ?_
 refine ai.val rfl (ae rfl) rfl ?_
 refine ai.nil ?_
 refine aj.seq ?_
 refine aj.region E.obj rfl ?_
 refine ai.val rfl (aa rfl) rfl ?_
 refine ai.val rfl (ak rfl rfl iG) rfl ?_
 refine ai.val rfl (aa rfl) rfl ?_
 refine ai.bE 4 9 (.d (.bool ((!(a1 == [])) && (decide (((a1).length:Int) ≤ 16))))) ?_ ?_
 ·
  rcases Bool.eq_false_or_eq_true ((!(a1 == []))) with hB2 | hB2
  ·
   refine ai.bool hB2 ?_
   refine ai.val rfl (aa rfl) rfl ?_
   refine ai.val rfl (dA rfl (dx nV) rfl) rfl ?_
   refine ai.val rfl (ak rfl rfl iV) rfl ?_
   refine ai.val rfl (av (b:=true) rfl rfl) rfl ?_
   exact ai.nil ⟨_,rfl,(ah.put (ah.push rfl (ah.push rfl (ah.push rfl (ah.put (.refl _) (Less.eq (by rw [hB2])))))) (Less.eq (by rw [hB2]; rw [Bool.true_and])))⟩
  refine ai.bool hB2 ?_
  refine ai.no rfl rfl ?_
  refine ai.no rfl rfl ?_
  refine ai.no rfl rfl ?_
  refine ai.val rfl (av (b:=false) rfl rfl) rfl ?_
  exact ai.nil ⟨_,rfl,(ah.put (ah.push rfl (ah.push rfl (ah.push rfl (ah.put (.refl _) (Less.eq (by rw [hB2])))))) (Less.eq (by rw [hB2]; rw [Bool.false_and])))⟩
 refine ai.val rfl (aa rfl) rfl ?_
 obtain ⟨z4,hzz4,h⟩:=bind_some h
 refine ai.bE 4 14 (.d (.bool z4)) ?_ ?_
 ·
  rcases Bool.eq_false_or_eq_true (((!(a1 == [])) && (decide (((a1).length:Int) ≤ 16)))) with hB3 | hB3
  ·
   refine ai.bool hB3 ?_
   replace hzz4:=bz hB3 hzz4
   refine ai.val rfl (aa rfl) rfl ?_
   obtain ⟨z5,hzz5,hzz4⟩:=bind_some hzz4
   refine ai.ret rfl (ay rfl rfl) (E.strings_Trim_ok _ _ _ _ hzz5 _ _ (au.eq (au.eq .nil))) rfl ?_
   refine ai.val rfl (ak rfl rfl gJ) rfl ?_
   refine ai.val rfl (av (b:=true) rfl rfl) rfl ?_
   cases hzz4
   exact ai.nil ⟨_,rfl,(ah.put (ah.push rfl (ah.push rfl (ah.push rfl (ah.put (.refl _) (Less.eq (by rw [hB3])))))) (.refl _))⟩
  refine ai.bool hB3 ?_
  refine ai.no rfl rfl ?_
  refine ai.no rfl rfl ?_
  refine ai.no rfl rfl ?_
  refine ai.val rfl (av (b:=false) rfl rfl) rfl ?_
  replace hzz4:=bu hB3 hzz4
  cases hzz4
  exact ai.nil ⟨_,rfl,(ah.put (ah.push rfl (ah.push rfl (ah.push rfl (ah.put (.refl _) (Less.eq (by rw [hB3])))))) (.refl _))⟩
 refine ai.val rfl (ae rfl) rfl ?_
 refine ai.nil ?_
 have hr:=Option.some.inj h
 subst hr
 exact aj.ret ⟨_,rfl,rfl,dJ (au.eq .nil)⟩
set_option maxRecDepth 20000 in
set_option maxHeartbeats 4000000 in
theorem mU (n:Nat) (a1:Seg) (a2:Seg) (S0:St) (b3:Nat) (hb4:S0.H.get b3=some (.cells 0 [(.d (.int .i64 a2.Kind)),(.d (.str a2.Text))])) (r:Bool) (h:eB n a1 a2=some r):dN R cfg.P 33 [.d (aF a1),.ptr b3 0 0] S0 (fun o=>o=(none,.d (.bool r),S0)):=by
 unfold eB at h
 refine SpecS.of_wp (C:=cfg) Tryd.func33 rfl Cn rfl (fun wf0=>?_)
 have H0:Has S0 S0 []:=Has.start wf0
 refine aj.seq ?_
 refine aj.region E.obj rfl ?_
 refine ai.box H0 rfl rfl rfl (Seg.eO _) rfl (fun b5 S6 H7=>?_)
 refine ai.val rfl (ae rfl) rfl ?_
 refine ai.nil ?_
 refine aj.seq ?_
 refine aj.region E.obj rfl ?_
 refine ai.val rfl (az rfl jA yU rfl) rfl ?_
 refine ai.val rfl (aL H7 (i:=0) rfl rfl (aR xN rfl)) rfl ?_
 refine ai.val rfl (ak rfl rfl jB) rfl ?_
 refine ai.val rfl (aa rfl) rfl ?_
 refine ai.bE 6 13 (.d (.bool ((a1.Kind != 0) && (a1.Text == a2.Text)))) ?_ ?_
 ·
  rcases Bool.eq_false_or_eq_true ((a1.Kind != 0)) with hB8 | hB8
  ·
   refine ai.bool hB8 ?_
   refine ai.val rfl (az rfl iJ uN rfl) rfl ?_
   refine ai.val rfl (aL H7 (i:=0) rfl rfl (aR lN rfl)) rfl ?_
   refine ai.val rfl (az rfl iJ uN rfl) rfl ?_
   refine ai.val rfl (wS H7 hb4 rfl (aR lN rfl)) rfl ?_
   refine ai.val rfl (ak rfl rfl gJ) rfl ?_
   refine ai.val rfl (av (b:=true) rfl rfl) rfl ?_
   exact ai.nil ⟨_,rfl,(ah.put (ah.push rfl (ah.push rfl (ah.push rfl (ah.push rfl (ah.push rfl (ah.put (.refl _) (Less.eq (by rw [hB8])))))))) (Less.eq (by rw [hB8]; rw [Bool.true_and])))⟩
  refine ai.bool hB8 ?_
  refine ai.no rfl rfl ?_
  refine ai.no rfl rfl ?_
  refine ai.no rfl rfl ?_
  refine ai.no rfl rfl ?_
  refine ai.no rfl rfl ?_
  refine ai.val rfl (av (b:=false) rfl rfl) rfl ?_
  exact ai.nil ⟨_,rfl,(ah.put (ah.push rfl (ah.push rfl (ah.push rfl (ah.push rfl (ah.push rfl (ah.put (.refl _) (Less.eq (by rw [hB8])))))))) (Less.eq (by rw [hB8]; rw [Bool.false_and])))⟩
 refine ai.val rfl (ae rfl) rfl ?_
 refine ai.nil ?_
 have hr:=Option.some.inj h
 subst hr
 exact aj.ret ⟨_,rfl,rfl,H7.keeps,dJ (au.eq .nil)⟩
set_option maxRecDepth 20000 in
set_option maxHeartbeats 4000000 in
theorem gH (n:Nat) (S0:St) (a1:(List Seg)) (fg3:Nat) (fc4:List AV) (p2:Seg→Option Bool) (hpp2:∀ S',lu S0 S'→S'.Wf→∀ (y0:Seg) (r:Bool),p2 y0=some r→dN R cfg.P fg3 ([.d (aF y0)] ++ fc4) S' (fun o=>o=(none,.d (.bool r),S'))) (r:Int) (h:bM n a1 p2=some r):dN R cfg.P 50 [.d (.sl ((a1).map aF) false),.fn fg3 fc4] S0 (fun o=>o=(none,.d (.int .i64 r),S0)):=by
 unfold bM at h
 refine SpecS.of_wp (C:=cfg) Tryd.func50 rfl CK rfl (fun wf0=>?_)
 have H0:Has S0 S0 []:=Has.start wf0
 refine aj.seq ?_
 refine aj.region E.obj rfl ?_
 refine ai.val rfl (ae rfl) rfl ?_
 refine ai.nil ?_
 refine aj.seq ?_
 refine aj.seq ?_
 refine aj.region E.obj rfl ?_
 refine ai.val rfl (aa rfl) rfl ?_
 refine ai.val rfl (aO rfl nZ) rfl ?_
 refine ai.val rfl (aa rfl) rfl ?_
 refine ai.nil ?_
 refine aj.block ?_
 refine lC.start (B:=S0) (α:=Int) (fun k a=>aI a1 p2 k a=some r) (fun a=>[(0,(.d (.sl ((a1).map aF) false))),(1,(.fn fg3 fc4)),(7,(.d (.int .i64 ((a1).length:Int)))),(8,(.d (.int .i64 a)))]) (fun a=>[]) ?_ ?_ n ⟨0,_,_,S0,.refl _ _,.refl _,(ah.r rfl (ah.r rfl (ah.r rfl (ah.r rfl ah.nil)))),H0.sl [] rfl rfl,h⟩
 ·
  intro a h; simp [aI] at h
 intro k13 x12 S10 H11 h
 replace h:aI a1 p2 (k13 + 1) x12=some r:=h
 replace H11:Has S0 S10 []:=H11
 unfold aI at h
 refine aj.seq ?_
 refine aj.region E.obj rfl ?_
 refine ai.val rfl (ak rfl rfl bV) rfl ?_
 refine ai.nil ?_
 refine aj.seq ?_
 refine aj.cond rfl (fun hb14=>?_) (fun hb14=>?_)
 ·
  replace h:=bz hb14 h
  refine aj.skip ?_
  refine aj.seq ?_
  refine aj.block ?_
  refine aj.seq ?_
  refine aj.region E.obj rfl ?_
  refine ai.val rfl (aa rfl) rfl ?_
  refine ai.val rfl (ae rfl) rfl ?_
  refine ai.nil ?_
  refine aj.seq ?_
  refine aj.region E.obj rfl ?_
  refine ai.val rfl (aa rfl) rfl ?_
  refine ai.val rfl (aa rfl) rfl ?_
  refine ai.val rfl (aa rfl) rfl ?_
  obtain ⟨z15,hzz15,h⟩:=bind_some h
  refine ai.val rfl (bQ rfl rfl (df (enc:=aF) hzz15 nE mJ ((Seg.len _).trans fD.symm))) rfl ?_
  refine ai.val rfl (aZ rfl (Seg.kH nu fD)) rfl ?_
  obtain ⟨z16,hzz16,h⟩:=bind_some h
  refine ai.ret rfl (wR rfl rfl) (hpp2 _ H11.keeps H11.wf _ _ hzz16) rfl ?_
  refine ai.nil ?_
  refine aj.cond rfl (fun hb17=>?_) (fun hb17=>?_)
  ·
   replace h:=bz hb17 h
   refine aj.seq ?_
   refine aj.region E.obj rfl ?_
   refine ai.val rfl (aa rfl) rfl ?_
   refine ai.val rfl (ae rfl) rfl ?_
   refine ai.nil ?_
   have hr:=Option.some.inj h
   subst hr
   exact aj.ret ⟨_,rfl,rfl,H11.keeps,dJ (au.eq .nil)⟩
  replace h:=bu hb17 h
  refine aj.skip ?_
  refine aj.region E.obj rfl ?_
  refine ai.val rfl (ak rfl rfl bP) rfl ?_
  refine ai.val rfl (aa rfl) rfl ?_
  refine ai.nil ?_
  exact ⟨(IntKind.wrap .i64 (x12 + 1)),_,_,S10,.refl _ _,.refl _,(ah.r rfl (ah.r rfl (ah.r rfl (ah.r rfl ah.nil)))),H11.sl [] rfl rfl,h⟩
 replace h:=bu hb14 h
 refine aj.exit ?_
 refine aj.seq ?_
 refine aj.region E.obj rfl ?_
 refine ai.val rfl (ae rfl) rfl ?_
 refine ai.nil ?_
 have hr:=Option.some.inj h
 subst hr
 exact aj.ret ⟨_,rfl,rfl,H11.keeps,dJ (au.eq .nil)⟩
set_option maxRecDepth 20000 in
set_option maxHeartbeats 4000000 in
theorem fQ (n:Nat) (S0:St) (a1:(List Seg)) (fg3:Nat) (fc4:List AV) (p2:Seg→Option Bool) (hpp2:∀ S',lu S0 S'→S'.Wf→∀ (y0:Seg) (r:Bool),p2 y0=some r→dN R cfg.P fg3 ([.d (aF y0)] ++ fc4) S' (fun o=>o=(none,.d (.bool r),S'))) (r:Bool) (h:aS n a1 p2=some r):dN R cfg.P 34 [.d (.sl ((a1).map aF) false),.fn fg3 fc4] S0 (fun o=>o=(none,.d (.bool r),S0)):=by
 unfold aS at h
 refine SpecS.of_wp (C:=cfg) Tryd.func34 rfl CG rfl (fun wf0=>?_)
 have H0:Has S0 S0 []:=Has.start wf0
 refine aj.seq ?_
 refine aj.region E.obj rfl ?_
 refine ai.val rfl (ae rfl) rfl ?_
 refine ai.nil ?_
 refine aj.seq ?_
 refine aj.region E.obj rfl ?_
 refine ai.val rfl (aa rfl) rfl ?_
 refine ai.val rfl (aa rfl) rfl ?_
 obtain ⟨z6,hzz6,h⟩:=bind_some h
 refine ai.ret rfl (ay rfl rfl) (dN.zi (gH E n S0 _ _ _ p2 (fun S' hk hw y5 r hr=>hpp2 S' (H0.keeps.trans hk) hw y5 r hr) _ hzz6) (.cons (.refl _) (.cons (.refl _) .nil))) rfl ?_
 refine ai.val rfl (ak rfl rfl fK) rfl ?_
 refine ai.val rfl (ae rfl) rfl ?_
 refine ai.nil ?_
 have hr:=Option.some.inj h
 subst hr
 exact aj.ret ⟨_,rfl,rfl,H0.keeps,dJ (au.eq .nil)⟩
set_option maxRecDepth 20000 in
set_option maxHeartbeats 4000000 in
theorem dO (n:Nat) (a1:(List Seg)) (r:Bool) (h:dh n a1=some r):aV R cfg.P 13 [(.sl ((a1).map aF) false)] (.d (.bool r)):=by
 unfold dh at h
 refine aV.of_wp E.obj.toObjOk (C:=cfg) Tryd.func13 rfl Cg rfl ?_
 have H0:Has ax ax []:=Has.pure
 refine aj.seq ?_
 refine aj.region E.obj rfl ?_
 refine ai.val rfl (ae rfl) rfl ?_
 refine ai.nil ?_
 refine aj.seq ?_
 refine aj.seq ?_
 refine aj.region E.obj rfl ?_
 refine ai.val rfl (aa rfl) rfl ?_
 refine ai.val rfl (aO rfl nZ) rfl ?_
 refine ai.val rfl (ak rfl rfl lK) rfl ?_
 refine ai.nil ?_
 refine aj.cond rfl (fun hb2=>?_) (fun hb2=>?_)
 ·
  replace h:=bz hb2 h
  refine aj.seq ?_
  refine aj.region E.obj rfl ?_
  refine ai.val rfl (ae rfl) rfl ?_
  refine ai.nil ?_
  have hr:=Option.some.inj h
  subst hr
  exact aj.ret ⟨_,rfl,rfl,dJ (au.eq .nil)⟩
 replace h:=bu hb2 h
 refine aj.skip ?_
 refine aj.seq ?_
 refine aj.seq ?_
 refine aj.region E.obj rfl ?_
 refine ai.val rfl (aa rfl) rfl ?_
 refine ai.val rfl (aO rfl nZ) rfl ?_
 refine ai.val rfl (aa rfl) rfl ?_
 refine ai.nil ?_
 refine aj.block ?_
 refine lC.start (B:=ax) (α:=Int) (fun k a=>bT n a1 k a=some r) (fun a=>[(0,(.d (.sl ((a1).map aF) false))),(10,(.d (.sl ((a1).map aF) false))),(11,(.d (.int .i64 ((a1).length:Int)))),(12,(.d (.int .i64 a)))]) (fun a=>[]) ?_ ?_ n ⟨0,_,_,ax,.refl _ _,.refl _,(ah.r rfl (ah.r rfl (ah.r rfl (ah.r rfl ah.nil)))),H0.sl [] rfl rfl,h⟩
 ·
  intro a h; simp [bT] at h
 intro k11 x10 S8 H9 h
 replace h:bT n a1 (k11 + 1) x10=some r:=h
 replace H9:Has ax S8 []:=H9
 unfold bT at h
 refine aj.seq ?_
 refine aj.region E.obj rfl ?_
 refine ai.val rfl (ak rfl rfl bV) rfl ?_
 refine ai.nil ?_
 refine aj.seq ?_
 refine aj.cond rfl (fun hb12=>?_) (fun hb12=>?_)
 ·
  replace h:=bz hb12 h
  refine aj.skip ?_
  refine aj.seq ?_
  refine aj.block ?_
  refine aj.seq ?_
  refine aj.region E.obj rfl ?_
  refine ai.val rfl (aa rfl) rfl ?_
  obtain ⟨z13,hzz13,h⟩:=bind_some h
  refine ai.val rfl (bQ rfl rfl (df (enc:=aF) hzz13 nE mJ ((Seg.len _).trans fD.symm))) rfl ?_
  refine ai.val rfl (aZ rfl (Seg.kH nu fD)) rfl ?_
  refine ai.alloc H9 rfl yB mK rfl rfl (fun b14 S15 H16=>?_)
  refine ai.val rfl (ae rfl) rfl ?_
  refine ai.store H16 (i:=0) rfl rfl rfl rfl (Seg.eO _) rfl fD rfl mJ rfl rfl rfl (fun S17 H18=>?_)
  refine ai.nil ?_
  refine aj.seq ?_
  refine aj.region E.obj rfl ?_
  refine ai.val rfl (aa rfl) rfl ?_
  refine ai.val rfl (aa rfl) rfl ?_
  refine ai.val rfl (aO rfl nZ) rfl ?_
  refine ai.val rfl (ak rfl rfl gP) rfl ?_
  refine ai.val rfl (ak rfl rfl dw) rfl ?_
  refine ai.val rfl (ae rfl) rfl ?_
  refine ai.nil ?_
  refine aj.seq ?_
  refine aj.block ?_
  refine aj.seq ?_
  refine aj.region E.obj rfl ?_
  refine ai.val rfl (az rfl iJ uN rfl) rfl ?_
  refine ai.val rfl (aL H18 (i:=0) rfl rfl (aR lN rfl)) rfl ?_
  obtain ⟨z19,hzz19,h⟩:=bind_some h
  refine ai.ret rfl (ay rfl rfl) (pE E _ _ _ hzz19 _ _ (au.eq .nil)) rfl ?_
  refine ai.val rfl (bH rfl) rfl ?_
  refine ai.val rfl (aa rfl) rfl ?_
  refine ai.bE 4 31 (.d (.bool ((!z19) || (decide (z13.Kind < 0))))) ?_ ?_
  ·
   rcases Bool.eq_false_or_eq_true ((!z19)) with hB20 | hB20
   ·
    refine ai.bool hB20 ?_
    refine ai.no rfl rfl ?_
    refine ai.no rfl rfl ?_
    refine ai.no rfl rfl ?_
    refine ai.val rfl (av (b:=true) rfl rfl) rfl ?_
    exact ai.nil ⟨_,rfl,(ah.put (ah.push rfl (ah.push rfl (ah.push rfl (ah.put (.refl _) (Less.eq (by rw [hB20])))))) (Less.eq (by rw [hB20]; rw [Bool.true_or])))⟩
   refine ai.bool hB20 ?_
   refine ai.val rfl (az rfl jA yU rfl) rfl ?_
   refine ai.val rfl (aL H18 (i:=0) rfl rfl (aR xN rfl)) rfl ?_
   refine ai.val rfl (ak rfl rfl bV) rfl ?_
   refine ai.val rfl (av (b:=false) rfl rfl) rfl ?_
   exact ai.nil ⟨_,rfl,(ah.put (ah.push rfl (ah.push rfl (ah.push rfl (ah.put (.refl _) (Less.eq (by rw [hB20])))))) (Less.eq (by rw [hB20]; rw [Bool.false_or])))⟩
  refine ai.val rfl (aa rfl) rfl ?_
  refine ai.bE 4 36 (.d (.bool (((!z19) || (decide (z13.Kind < 0))) || (decide (3 < z13.Kind))))) ?_ ?_
  ·
   rcases Bool.eq_false_or_eq_true (((!z19) || (decide (z13.Kind < 0)))) with hB21 | hB21
   ·
    refine ai.bool hB21 ?_
    refine ai.no rfl rfl ?_
    refine ai.no rfl rfl ?_
    refine ai.no rfl rfl ?_
    refine ai.val rfl (av (b:=true) rfl rfl) rfl ?_
    exact ai.nil ⟨_,rfl,(ah.put (ah.push rfl (ah.push rfl (ah.push rfl (ah.put (.refl _) (Less.eq (by rw [hB21])))))) (Less.eq (by rw [hB21]; rw [Bool.true_or])))⟩
   refine ai.bool hB21 ?_
   refine ai.val rfl (az rfl jA yU rfl) rfl ?_
   refine ai.val rfl (aL H18 (i:=0) rfl rfl (aR xN rfl)) rfl ?_
   refine ai.val rfl (ak rfl rfl lK) rfl ?_
   refine ai.val rfl (av (b:=false) rfl rfl) rfl ?_
   exact ai.nil ⟨_,rfl,(ah.put (ah.push rfl (ah.push rfl (ah.push rfl (ah.put (.refl _) (Less.eq (by rw [hB21])))))) (Less.eq (by rw [hB21]; rw [Bool.false_or])))⟩
  refine ai.val rfl (ae rfl) rfl ?_
  refine ai.nil ?_
  refine aj.cond rfl (fun hb22=>?_) (fun hb22=>?_)
  ·
   replace h:=bz hb22 h
   refine aj.seq ?_
   refine aj.region E.obj rfl ?_
   refine ai.val rfl (ae rfl) rfl ?_
   refine ai.nil ?_
   have hr:=Option.some.inj h
   subst hr
   exact aj.ret ⟨_,rfl,rfl,dJ (au.eq .nil)⟩
  replace h:=bu hb22 h
  refine aj.seq ?_
  refine aj.region E.obj rfl ?_
  refine ai.val rfl (az rfl jA yU rfl) rfl ?_
  refine ai.val rfl (aL H18 (i:=0) rfl rfl (aR xN rfl)) rfl ?_
  refine ai.val rfl (ak rfl rfl fK) rfl ?_
  refine ai.val rfl (aa rfl) rfl ?_
  refine ai.bE 3 44 (.d (.bool ((decide (2 ≤ z13.Kind)) && (!(x10 == (IntKind.wrap .i64 (((a1).length:Int) - 1))))))) ?_ ?_
  ·
   rcases Bool.eq_false_or_eq_true ((decide (2 ≤ z13.Kind))) with hB23 | hB23
   ·
    refine ai.bool hB23 ?_
    refine ai.val rfl (aa rfl) rfl ?_
    refine ai.val rfl (bH rfl) rfl ?_
    refine ai.val rfl (av (b:=true) rfl rfl) rfl ?_
    exact ai.nil ⟨_,rfl,(ah.put (ah.push rfl (ah.push rfl (ah.put (.refl _) (Less.eq (by rw [hB23]))))) (Less.eq (by rw [hB23]; rw [Bool.true_and])))⟩
   refine ai.bool hB23 ?_
   refine ai.no rfl rfl ?_
   refine ai.no rfl rfl ?_
   refine ai.val rfl (av (b:=false) rfl rfl) rfl ?_
   exact ai.nil ⟨_,rfl,(ah.put (ah.push rfl (ah.push rfl (ah.put (.refl _) (Less.eq (by rw [hB23]))))) (Less.eq (by rw [hB23]; rw [Bool.false_and])))⟩
  refine ai.val rfl (ae rfl) rfl ?_
  refine ai.nil ?_
  refine aj.cond rfl (fun hb24=>?_) (fun hb24=>?_)
  ·
   replace h:=bz hb24 h
   refine aj.seq ?_
   refine aj.region E.obj rfl ?_
   refine ai.val rfl (ae rfl) rfl ?_
   refine ai.nil ?_
   have hr:=Option.some.inj h
   subst hr
   exact aj.ret ⟨_,rfl,rfl,dJ (au.eq .nil)⟩
  replace h:=bu hb24 h
  refine aj.skip ?_
  refine aj.seq ?_
  refine aj.region E.obj rfl ?_
  refine ai.val rfl (sU rfl) rfl ?_
  refine ai.val rfl (ae rfl) rfl ?_
  refine ai.nil ?_
  refine aj.seq ?_
  refine aj.region E.obj rfl ?_
  refine ai.val rfl (az rfl jA yU rfl) rfl ?_
  refine ai.val rfl (aL H18 (i:=0) rfl rfl (aR xN rfl)) rfl ?_
  refine ai.val rfl (ak rfl rfl jB) rfl ?_
  refine ai.val rfl (aa rfl) rfl ?_
  obtain ⟨z26,hzz26,h⟩:=bind_some h
  refine ai.bE 6 55 (.d (.bool z26)) ?_ ?_
  ·
   rcases Bool.eq_false_or_eq_true ((z13.Kind != 0)) with hB25 | hB25
   ·
    refine ai.bool hB25 ?_
    replace hzz26:=bz hB25 hzz26
    refine ai.val rfl (aa rfl) rfl ?_
    refine ai.val rfl (aa rfl) rfl ?_
    obtain ⟨z27,hzz27,hzz26⟩:=bind_some hzz26
    refine ai.val rfl (rV rfl rfl nE BP (fun z=>(Seg.len z).trans fD.symm) hzz27) rfl ?_
    refine ai.val rfl (aa rfl) rfl ?_
    obtain ⟨z29,hzz29,hzz26⟩:=bind_some hzz26
    refine ai.ret rfl (ay rfl rfl) (dN.zi (fQ E n S17 _ _ _ (fun y28=>eB n y28 z13) (fun S' hk hw y28 r hr=>mU E n y28 z13 S' _ (hk.H _ _ (H18.at (i:=0) rfl)) r hr) _ hzz29) (.cons (.refl _) (.cons (.refl _) .nil))) rfl ?_
    refine ai.val rfl (av (b:=true) rfl rfl) rfl ?_
    cases hzz26
    exact ai.nil ⟨_,rfl,(ah.put (ah.push rfl (ah.push rfl (ah.push rfl (ah.push rfl (ah.push rfl (ah.put (.refl _) (Less.eq (by rw [hB25])))))))) (.refl _))⟩
   refine ai.bool hB25 ?_
   refine ai.no rfl rfl ?_
   refine ai.no rfl rfl ?_
   refine ai.no rfl rfl ?_
   refine ai.no rfl rfl ?_
   refine ai.no rfl rfl ?_
   refine ai.val rfl (av (b:=false) rfl rfl) rfl ?_
   replace hzz26:=bu hB25 hzz26
   cases hzz26
   exact ai.nil ⟨_,rfl,(ah.put (ah.push rfl (ah.push rfl (ah.push rfl (ah.push rfl (ah.push rfl (ah.put (.refl _) (Less.eq (by rw [hB25])))))))) (.refl _))⟩
  refine ai.nil ?_
  refine aj.cond rfl (fun hb30=>?_) (fun hb30=>?_)
  ·
   replace h:=bz hb30 h
   refine aj.seq ?_
   refine aj.region E.obj rfl ?_
   refine ai.val rfl (ae rfl) rfl ?_
   refine ai.nil ?_
   have hr:=Option.some.inj h
   subst hr
   exact aj.ret ⟨_,rfl,rfl,dJ (au.eq .nil)⟩
  replace h:=bu hb30 h
  refine aj.skip ?_
  refine aj.region E.obj rfl ?_
  refine ai.val rfl (ak rfl rfl bP) rfl ?_
  refine ai.val rfl (aa rfl) rfl ?_
  refine ai.nil ?_
  exact ⟨(IntKind.wrap .i64 (x10 + 1)),_,_,S17,.refl _ _,.refl _,(ah.r rfl (ah.r rfl (ah.r rfl (ah.r rfl ah.nil)))),H18.sl [] rfl rfl,h⟩
 replace h:=bu hb12 h
 refine aj.exit ?_
 refine aj.seq ?_
 refine aj.region E.obj rfl ?_
 refine ai.val rfl (ae rfl) rfl ?_
 refine ai.nil ?_
 have hr:=Option.some.inj h
 subst hr
 exact aj.ret ⟨_,rfl,rfl,dJ (au.eq .nil)⟩
set_option maxRecDepth 20000 in
set_option maxHeartbeats 4000000 in
theorem nX (n:Nat) (a1:Int) (r:Bool) (h:mh n a1=some r):aV R cfg.P 55 [(.int .u8 a1)] (.d (.bool r)):=by
 unfold mh at h
 refine aV.of_wp E.obj.toObjOk (C:=cfg) Tryd.func55 rfl Cy rfl ?_
 have H0:Has ax ax []:=Has.pure
 refine aj.seq ?_
 refine aj.region E.obj rfl ?_
 refine ai.val rfl (ae rfl) rfl ?_
 refine ai.nil ?_
 refine aj.seq ?_
 refine aj.region E.obj rfl ?_
 refine ai.val rfl (aa rfl) rfl ?_
 refine ai.val rfl (ak rfl rfl fK) rfl ?_
 refine ai.val rfl (aa rfl) rfl ?_
 refine ai.bE 3 9 (.d (.bool ((decide (97 ≤ a1)) && (decide (a1 ≤ 122))))) ?_ ?_
 ·
  rcases Bool.eq_false_or_eq_true ((decide (97 ≤ a1))) with hB2 | hB2
  ·
   refine ai.bool hB2 ?_
   refine ai.val rfl (aa rfl) rfl ?_
   refine ai.val rfl (ak rfl rfl iV) rfl ?_
   refine ai.val rfl (av (b:=true) rfl rfl) rfl ?_
   exact ai.nil ⟨_,rfl,(ah.put (ah.push rfl (ah.push rfl (ah.put (.refl _) (Less.eq (by rw [hB2]))))) (Less.eq (by rw [hB2]; rw [Bool.true_and])))⟩
  refine ai.bool hB2 ?_
  refine ai.no rfl rfl ?_
  refine ai.no rfl rfl ?_
  refine ai.val rfl (av (b:=false) rfl rfl) rfl ?_
  exact ai.nil ⟨_,rfl,(ah.put (ah.push rfl (ah.push rfl (ah.put (.refl _) (Less.eq (by rw [hB2]))))) (Less.eq (by rw [hB2]; rw [Bool.false_and])))⟩
 refine ai.val rfl (aa rfl) rfl ?_
 refine ai.bE 7 17 (.d (.bool (((decide (97 ≤ a1)) && (decide (a1 ≤ 122))) || ((decide (65 ≤ a1)) && (decide (a1 ≤ 90)))))) ?_ ?_
 ·
  rcases Bool.eq_false_or_eq_true (((decide (97 ≤ a1)) && (decide (a1 ≤ 122)))) with hB3 | hB3
  ·
   refine ai.bool hB3 ?_
   refine ai.no rfl rfl ?_
   refine ai.no rfl rfl ?_
   refine ai.no rfl rfl ?_
   refine ai.no rfl rfl ?_
   refine ai.no rfl rfl ?_
   refine ai.no rfl rfl ?_
   refine ai.val rfl (av (b:=true) rfl rfl) rfl ?_
   exact ai.nil ⟨_,rfl,(ah.put (ah.push rfl (ah.push rfl (ah.push rfl (ah.push rfl (ah.push rfl (ah.push rfl (ah.put (.refl _) (Less.eq (by rw [hB3]))))))))) (Less.eq (by rw [hB3]; rw [Bool.true_or])))⟩
  refine ai.bool hB3 ?_
  refine ai.val rfl (aa rfl) rfl ?_
  refine ai.val rfl (ak rfl rfl fK) rfl ?_
  refine ai.val rfl (aa rfl) rfl ?_
  refine ai.bE 3 16 (.d (.bool ((decide (65 ≤ a1)) && (decide (a1 ≤ 90))))) ?_ ?_
  ·
   rcases Bool.eq_false_or_eq_true ((decide (65 ≤ a1))) with hB4 | hB4
   ·
    refine ai.bool hB4 ?_
    refine ai.val rfl (aa rfl) rfl ?_
    refine ai.val rfl (ak rfl rfl iV) rfl ?_
    refine ai.val rfl (av (b:=true) rfl rfl) rfl ?_
    exact ai.nil ⟨_,rfl,(ah.put (ah.push rfl (ah.push rfl (ah.put (.refl _) (Less.eq (by rw [hB4]))))) (Less.eq (by rw [hB4]; rw [Bool.true_and])))⟩
   refine ai.bool hB4 ?_
   refine ai.no rfl rfl ?_
   refine ai.no rfl rfl ?_
   refine ai.val rfl (av (b:=false) rfl rfl) rfl ?_
   exact ai.nil ⟨_,rfl,(ah.put (ah.push rfl (ah.push rfl (ah.put (.refl _) (Less.eq (by rw [hB4]))))) (Less.eq (by rw [hB4]; rw [Bool.false_and])))⟩
  refine ai.val rfl (av (b:=false) rfl rfl) rfl ?_
  exact ai.nil ⟨_,rfl,(ah.put (ah.push rfl (ah.push rfl (ah.push rfl (ah.push rfl (ah.put (.refl _) (Less.eq (by rw [hB3]))))))) (Less.eq (by rw [hB3]; rw [Bool.false_or])))⟩
 refine ai.val rfl (ae rfl) rfl ?_
 refine ai.nil ?_
 refine aj.seq ?_
 refine aj.region E.obj rfl ?_
 refine ai.val rfl (aa rfl) rfl ?_
 refine ai.val rfl (aa rfl) rfl ?_
 refine ai.bE 7 26 (.d (.bool ((((decide (97 ≤ a1)) && (decide (a1 ≤ 122))) || ((decide (65 ≤ a1)) && (decide (a1 ≤ 90)))) || ((decide (48 ≤ a1)) && (decide (a1 ≤ 57)))))) ?_ ?_
 ·
  rcases Bool.eq_false_or_eq_true ((((decide (97 ≤ a1)) && (decide (a1 ≤ 122))) || ((decide (65 ≤ a1)) && (decide (a1 ≤ 90))))) with hB5 | hB5
  ·
   refine ai.bool hB5 ?_
   refine ai.no rfl rfl ?_
   refine ai.no rfl rfl ?_
   refine ai.no rfl rfl ?_
   refine ai.no rfl rfl ?_
   refine ai.no rfl rfl ?_
   refine ai.no rfl rfl ?_
   refine ai.val rfl (av (b:=true) rfl rfl) rfl ?_
   exact ai.nil ⟨_,rfl,(ah.put (ah.push rfl (ah.push rfl (ah.push rfl (ah.push rfl (ah.push rfl (ah.push rfl (ah.put (.refl _) (Less.eq (by rw [hB5]))))))))) (Less.eq (by rw [hB5]; rw [Bool.true_or])))⟩
  refine ai.bool hB5 ?_
  refine ai.val rfl (aa rfl) rfl ?_
  refine ai.val rfl (ak rfl rfl fK) rfl ?_
  refine ai.val rfl (aa rfl) rfl ?_
  refine ai.bE 3 25 (.d (.bool ((decide (48 ≤ a1)) && (decide (a1 ≤ 57))))) ?_ ?_
  ·
   rcases Bool.eq_false_or_eq_true ((decide (48 ≤ a1))) with hB6 | hB6
   ·
    refine ai.bool hB6 ?_
    refine ai.val rfl (aa rfl) rfl ?_
    refine ai.val rfl (ak rfl rfl iV) rfl ?_
    refine ai.val rfl (av (b:=true) rfl rfl) rfl ?_
    exact ai.nil ⟨_,rfl,(ah.put (ah.push rfl (ah.push rfl (ah.put (.refl _) (Less.eq (by rw [hB6]))))) (Less.eq (by rw [hB6]; rw [Bool.true_and])))⟩
   refine ai.bool hB6 ?_
   refine ai.no rfl rfl ?_
   refine ai.no rfl rfl ?_
   refine ai.val rfl (av (b:=false) rfl rfl) rfl ?_
   exact ai.nil ⟨_,rfl,(ah.put (ah.push rfl (ah.push rfl (ah.put (.refl _) (Less.eq (by rw [hB6]))))) (Less.eq (by rw [hB6]; rw [Bool.false_and])))⟩
  refine ai.val rfl (av (b:=false) rfl rfl) rfl ?_
  exact ai.nil ⟨_,rfl,(ah.put (ah.push rfl (ah.push rfl (ah.push rfl (ah.push rfl (ah.put (.refl _) (Less.eq (by rw [hB5]))))))) (Less.eq (by rw [hB5]; rw [Bool.false_or])))⟩
 refine ai.val rfl (aa rfl) rfl ?_
 obtain ⟨z8,hzz8,h⟩:=bind_some h
 refine ai.bE 4 31 (.d (.bool z8)) ?_ ?_
 ·
  rcases Bool.eq_false_or_eq_true (((((decide (97 ≤ a1)) && (decide (a1 ≤ 122))) || ((decide (65 ≤ a1)) && (decide (a1 ≤ 90)))) || ((decide (48 ≤ a1)) && (decide (a1 ≤ 57))))) with hB7 | hB7
  ·
   refine ai.bool hB7 ?_
   refine ai.no rfl rfl ?_
   refine ai.no rfl rfl ?_
   refine ai.no rfl rfl ?_
   refine ai.val rfl (av (b:=true) rfl rfl) rfl ?_
   replace hzz8:=bz hB7 hzz8
   cases hzz8
   exact ai.nil ⟨_,rfl,(ah.put (ah.push rfl (ah.push rfl (ah.push rfl (ah.put (.refl _) (Less.eq (by rw [hB7])))))) (.refl _))⟩
  refine ai.bool hB7 ?_
  replace hzz8:=bu hB7 hzz8
  refine ai.val rfl (aa rfl) rfl ?_
  obtain ⟨z9,hzz9,hzz8⟩:=bind_some hzz8
  refine ai.ret rfl (ay rfl rfl) (E.strings_IndexByte_ok _ _ _ _ hzz9 _ _ (au.eq (au.eq .nil))) rfl ?_
  refine ai.val rfl (ak rfl rfl fK) rfl ?_
  refine ai.val rfl (av (b:=false) rfl rfl) rfl ?_
  cases hzz8
  exact ai.nil ⟨_,rfl,(ah.put (ah.push rfl (ah.push rfl (ah.push rfl (ah.put (.refl _) (Less.eq (by rw [hB7])))))) (.refl _))⟩
 refine ai.val rfl (ae rfl) rfl ?_
 refine ai.nil ?_
 have hr:=Option.some.inj h
 subst hr
 exact aj.ret ⟨_,rfl,rfl,dJ (au.eq .nil)⟩
set_option maxRecDepth 20000 in
set_option maxHeartbeats 4000000 in
theorem tq (n:Nat) (a1:Str) (r:Str) (h:nC n a1=some r):aV R cfg.P 42 [(.str a1)] (.d (.str r)):=by
 unfold nC at h
 refine aV.of_wp E.obj.toObjOk (C:=cfg) Tryd.func42 rfl Cv rfl ?_
 have H0:Has ax ax []:=Has.pure
 refine aj.seq ?_
 refine aj.region E.obj rfl ?_
 refine ai.val rfl (ae rfl) rfl ?_
 refine ai.nil ?_
 refine aj.seq ?_
 refine aj.region E.obj rfl ?_
 refine ai.rO H0 rfl AY rfl (fun b2 S3 H4=>?_)
 refine ai.nil ?_
 refine aj.seq ?_
 refine aj.seq ?_
 refine aj.region E.obj rfl ?_
 refine ai.val rfl (aa rfl) rfl ?_
 refine ai.val rfl (dA rfl (dx nV) rfl) rfl ?_
 refine ai.val rfl (aa rfl) rfl ?_
 refine ai.nil ?_
 refine aj.block ?_
 refine lC.start (B:=ax) (α:=Str × Int) (fun k a=>dn n a1 k a.1 a.2=some r) (fun a=>[(0,(.d (.str a1))),(3,(.ptr b2 0 0)),(7,(.d (.int .i64 ((a1).length:Int)))),(8,(.d (.int .i64 a.2)))]) (fun a=>[.obj b2 1 (.str a.1)]) ?_ ?_ n ⟨⟨[],0⟩,_,_,S3,.refl _ _,.refl _,(ah.r rfl (ah.r rfl (ah.r rfl (ah.r rfl ah.nil)))),H4.sl [0] rfl rfl,h⟩
 ·
  intro a h; simp [dn] at h
 intro k15 a S11 H12 h
 obtain ⟨x13,x14⟩:=a
 replace h:dn n a1 (k15 + 1) x13 x14=some r:=h
 replace H12:Has ax S11 [.obj b2 1 (.str x13)]:=H12
 unfold dn at h
 refine aj.seq ?_
 refine aj.region E.obj rfl ?_
 refine ai.val rfl (ak rfl rfl bV) rfl ?_
 refine ai.nil ?_
 refine aj.seq ?_
 refine aj.cond rfl (fun hb16=>?_) (fun hb16=>?_)
 ·
  replace h:=bz hb16 h
  refine aj.skip ?_
  refine aj.join (B:=ax) (α:=Str) (fun a=>gD x14 (dn n a1 k15) a=some r) (fun a=>[(0,(.d (.str a1))),(3,(.ptr b2 0 0)),(7,(.d (.int .i64 ((a1).length:Int)))),(8,(.d (.int .i64 x14)))]) (fun a=>[.obj b2 1 (.str a)]) ?_ ?_
  ·
   intro x19 S17 H18 h
   replace h:gD x14 (dn n a1 k15) x19=some r:=h
   replace H18:Has ax S17 [.obj b2 1 (.str x19)]:=H18
   unfold gD at h
   refine aj.region E.obj rfl ?_
   refine ai.val rfl (ak rfl rfl bP) rfl ?_
   refine ai.val rfl (aa rfl) rfl ?_
   refine ai.nil ?_
   exact ⟨⟨x19,(IntKind.wrap .i64 (x14 + 1))⟩,_,_,S17,.refl _ _,.refl _,(ah.r rfl (ah.r rfl (ah.r rfl (ah.r rfl ah.nil)))),H18.sl [0] rfl rfl,h⟩
  refine aj.block ?_
  refine aj.seq ?_
  refine aj.region E.obj rfl ?_
  refine ai.val rfl (aa rfl) rfl ?_
  refine ai.val rfl (ae rfl) rfl ?_
  refine ai.nil ?_
  refine aj.seq ?_
  refine aj.region E.obj rfl ?_
  refine ai.val rfl (aa rfl) rfl ?_
  refine ai.val rfl (aa rfl) rfl ?_
  obtain ⟨z21,hzz21,h⟩:=bind_some h
  refine ai.val rfl (ic rfl rfl (eX hzz21).1 nV (eX hzz21).2) rfl ?_
  refine ai.val rfl (ae rfl) rfl ?_
  refine ai.nil ?_
  refine aj.seq ?_
  refine aj.seq ?_
  refine aj.region E.obj rfl ?_
  refine ai.val rfl (aa rfl) rfl ?_
  obtain ⟨z22,hzz22,h⟩:=bind_some h
  refine ai.ret rfl (ay rfl rfl) (nX E _ _ _ hzz22 _ _ (au.eq .nil)) rfl ?_
  refine ai.nil ?_
  refine aj.cond rfl (fun hb23=>?_) (fun hb23=>?_)
  ·
   replace h:=bz hb23 h
   refine aj.seq ?_
   refine aj.region E.obj rfl ?_
   refine ai.val rfl (aa rfl) rfl ?_
   obtain ⟨z26,hzz26,h⟩:=bind_some h
   refine ai.wb E.bld H12 rfl rfl (i:=0) rfl hzz26 rfl (fun S24 H25=>?_)
   refine ai.nil ?_
   refine aj.exit ?_
   exact ⟨z26,_,_,S24,.refl _ _,.refl _,(ah.r rfl (ah.r rfl (ah.r rfl (ah.r rfl ah.nil)))),H25.sl [0] rfl rfl,h⟩
  replace h:=bu hb23 h
  refine aj.skip ?_
  refine aj.seq ?_
  refine aj.region E.obj rfl ?_
  obtain ⟨z29,hzz29,h⟩:=bind_some h
  refine ai.wb E.bld H12 rfl rfl (i:=0) rfl hzz29 rfl (fun S27 H28=>?_)
  refine ai.nil ?_
  refine aj.seq ?_
  refine aj.region E.obj rfl ?_
  refine ai.val rfl (aa rfl) rfl ?_
  obtain ⟨z30,hzz30,h⟩:=bind_some h
  refine ai.val rfl (ak rfl rfl (yS hzz30)) rfl ?_
  obtain ⟨z31,hzz31,h⟩:=bind_some h
  refine ai.val rfl (ic rfl rfl (eX hzz31).1 nV (eX hzz31).2) rfl ?_
  obtain ⟨z34,hzz34,h⟩:=bind_some h
  refine ai.wb E.bld H28 rfl rfl (i:=0) rfl hzz34 rfl (fun S32 H33=>?_)
  refine ai.nil ?_
  refine aj.region E.obj rfl ?_
  refine ai.val rfl (aa rfl) rfl ?_
  refine ai.val rfl (ak rfl rfl zb) rfl ?_
  obtain ⟨z35,hzz35,h⟩:=bind_some h
  refine ai.val rfl (ic rfl rfl (eX hzz35).1 nV (eX hzz35).2) rfl ?_
  obtain ⟨z38,hzz38,h⟩:=bind_some h
  refine ai.wb E.bld H33 rfl rfl (i:=0) rfl hzz38 rfl (fun S36 H37=>?_)
  refine ai.nil ?_
  exact ⟨z38,_,_,S36,.refl _ _,.refl _,(ah.r rfl (ah.r rfl (ah.r rfl (ah.r rfl ah.nil)))),H37.sl [0] rfl rfl,h⟩
 replace h:=bu hb16 h
 refine aj.exit ?_
 refine aj.seq ?_
 refine aj.region E.obj rfl ?_
 refine ai.st E.bld H12 rfl rfl (i:=0) rfl rfl (fun S39 H40=>?_)
 refine ai.val rfl (ae rfl) rfl ?_
 refine ai.nil ?_
 have hr:=Option.some.inj h
 subst hr
 exact aj.ret ⟨_,rfl,rfl,dJ (au.eq .nil)⟩
set_option maxRecDepth 20000 in
set_option maxHeartbeats 4000000 in
theorem qj (n:Nat) (a1:(List Str)) (r:Str) (h:kU n a1=some r):aV R cfg.P 23 [(.sl ((a1).map D.str) false)] (.d (.str r)):=by
 unfold kU at h
 refine aV.of_wp E.obj.toObjOk (C:=cfg) Tryd.func23 rfl De rfl ?_
 have H0:Has ax ax []:=Has.pure
 refine aj.seq ?_
 refine aj.region E.obj rfl ?_
 refine ai.val rfl (ae rfl) rfl ?_
 refine ai.nil ?_
 refine aj.seq ?_
 refine aj.region E.obj rfl ?_
 refine ai.val rfl (ae rfl) rfl ?_
 refine ai.nil ?_
 refine aj.seq ?_
 refine aj.seq ?_
 refine aj.region E.obj rfl ?_
 refine ai.val rfl (aa rfl) rfl ?_
 refine ai.val rfl (aO rfl o6) rfl ?_
 refine ai.val rfl (aa rfl) rfl ?_
 refine ai.nil ?_
 refine aj.block ?_
 have H23:=H0.yO
 refine lC.start (B:=ax) (α:=(List Str) × AV × Int) (fun k a=>dP n a1 k a.1 a.2.2=some r) (fun a=>[(3,a.2.1),(6,(.d (.sl ((a1).map D.str) false))),(7,(.d (.int .i64 ((a1).length:Int)))),(8,(.d (.int .i64 a.2.2)))]) (fun a=>[.grow a.2.1 ((a.1).map D.str)]) ?_ ?_ n ⟨⟨[],(.d .bK),0⟩,_,_,ax,.refl _ _,.refl _,(ah.r rfl (ah.r rfl (ah.r rfl (ah.r rfl ah.nil)))),H23.sl [0] rfl rfl,h⟩
 ·
  intro a h; simp [dP] at h
 intro k14 a S9 H10 h
 obtain ⟨x11,v12,x13⟩:=a
 replace h:dP n a1 (k14 + 1) x11 x13=some r:=h
 replace H10:Has ax S9 [.grow v12 ((x11).map D.str)]:=H10
 unfold dP at h
 refine aj.seq ?_
 refine aj.region E.obj rfl ?_
 refine ai.val rfl (ak rfl rfl bV) rfl ?_
 refine ai.nil ?_
 refine aj.seq ?_
 refine aj.cond rfl (fun hb15=>?_) (fun hb15=>?_)
 ·
  replace h:=bz hb15 h
  refine aj.skip ?_
  refine aj.seq ?_
  refine aj.block ?_
  refine aj.seq ?_
  refine aj.region E.obj rfl ?_
  obtain ⟨z16,hzz16,h⟩:=bind_some h
  refine ai.val rfl (bQ rfl rfl (df (enc:=D.str) hzz16 je zT (((fun _=>rfl) _).trans mZ.symm))) rfl ?_
  refine ai.val rfl (aZ rfl (eu lN rfl)) rfl ?_
  refine ai.val rfl (ae rfl) rfl ?_
  refine ai.nil ?_
  refine aj.region E.obj rfl ?_
  refine ai.val rfl (aa rfl) rfl ?_
  refine ai.val rfl (aa rfl) rfl ?_
  obtain ⟨z17,hzz17,h⟩:=bind_some h
  refine ai.ret rfl (ay rfl rfl) (tq E _ _ _ hzz17 _ _ (au.eq .nil)) rfl ?_
  refine ai.val rfl (aU (vs:=[(.d (.str z17))]) (ds:=[(.str z17)]) oh je lN Au mZ rfl (by decide) (.cons rfl rfl .nil) rfl (by intro d hd; simp only [List.mem_cons,List.not_mem_nil,or_false] at hd; rcases hd with rfl <;> rfl) rfl) rfl ?_
  obtain ⟨z18,hzz18,h⟩:=bind_some h
  refine ai.append (xs:=(x11).map D.str) (ys:=([z17]).map D.str) (zs:=(z18).map D.str) H10 rfl rfl rfl (i:=0) rfl rfl oh yJ je (fq hzz18) Bt rfl (bJ (enc:=D.str) (fun _=>mZ.symm) _) (bJ (enc:=D.str) (fun _=>mZ.symm) _) Bu rfl (jw hzz18) (fun v19 S20 H21=>?_)
  refine ai.val rfl (ae rfl) rfl ?_
  refine ai.nil ?_
  refine aj.region E.obj rfl ?_
  refine ai.val rfl (ak rfl rfl bP) rfl ?_
  refine ai.val rfl (aa rfl) rfl ?_
  refine ai.nil ?_
  exact ⟨⟨z18,v19,(IntKind.wrap .i64 (x13 + 1))⟩,_,_,S20,.refl _ _,.refl _,(ah.r rfl (ah.r rfl (ah.r rfl (ah.r rfl ah.nil)))),H21.sl [0] rfl rfl,h⟩
 replace h:=bu hb15 h
 refine aj.exit ?_
 refine aj.seq ?_
 refine aj.region E.obj rfl ?_
 refine ai.val rfl (aa rfl) rfl ?_
 obtain ⟨z22,hzz22,h⟩:=bind_some h
 refine ai.ret rfl (ay rfl rfl) (E.strings_Join_ok _ _ _ _ hzz22 _ _ (au.grow H10 (i:=0) rfl (au.eq .nil))) rfl ?_
 refine ai.val rfl (ae rfl) rfl ?_
 refine ai.nil ?_
 have hr:=Option.some.inj h
 subst hr
 exact aj.ret ⟨_,rfl,rfl,dJ (au.eq .nil)⟩
set_option maxRecDepth 20000 in
set_option maxHeartbeats 4000000 in
theorem kG (n:Nat) (a1:(List Seg)) (a2:(List Str)) (r:((List aN) × Bool)) (h:iP n a1 a2=some r):aV R cfg.P 8 [(.sl ((a1).map aF) false),(.sl ((a2).map D.str) false)] (.tup [.d (.sl ((r.1).map aB) false),.d (.bool r.2)]):=by
 unfold iP at h
 refine aV.of_wp E.obj.toObjOk (C:=cfg) Tryd.func8 rfl Dq rfl ?_
 have H0:Has ax ax []:=Has.pure
 refine aj.seq ?_
 refine aj.region E.obj rfl ?_
 refine ai.val rfl (ae rfl) rfl ?_
 refine ai.val rfl (ae rfl) rfl ?_
 refine ai.nil ?_
 refine aj.seq ?_
 refine aj.seq ?_
 refine aj.region E.obj rfl ?_
 refine ai.val rfl (aa rfl) rfl ?_
 obtain ⟨z3,hzz3,h⟩:=bind_some h
 refine ai.ret rfl (ay rfl rfl) (dO E _ _ _ hzz3 _ _ (au.eq .nil)) rfl ?_
 refine ai.val rfl (bH rfl) rfl ?_
 refine ai.nil ?_
 refine aj.cond rfl (fun hb4=>?_) (fun hb4=>?_)
 ·
  replace h:=bz hb4 h
  refine aj.seq ?_
  refine aj.region E.obj rfl ?_
  refine ai.val rfl (ae rfl) rfl ?_
  refine ai.val rfl (ae rfl) rfl ?_
  refine ai.nil ?_
  have hr:=Option.some.inj h
  subst hr
  exact aj.ret ⟨_,rfl,rfl,gF (vs:=[(.d .bK),(.d (.bool false))]) (ds:=[(.sl (([]).map aB) false),(.bool false)]) (au.fA rfl (.bK false) (au.eq .nil))⟩
 replace h:=bu hb4 h
 refine aj.skip ?_
 refine aj.seq ?_
 refine aj.region E.obj rfl ?_
 refine ai.val rfl (ae rfl) rfl ?_
 refine ai.nil ?_
 refine aj.seq ?_
 refine aj.seq ?_
 refine aj.region E.obj rfl ?_
 refine ai.val rfl (aa rfl) rfl ?_
 refine ai.val rfl (aO rfl nZ) rfl ?_
 refine ai.val rfl (aa rfl) rfl ?_
 refine ai.nil ?_
 refine aj.block ?_
 have H53:=H0.yO
 refine lC.start (B:=ax) (α:=(List Str) × (List aN) × AV × Int) (fun k a=>bS n a1 k a.1 a.2.1 a.2.2.2=some r) (fun a=>[(1,(.d (.sl ((a.1).map D.str) false))),(6,a.2.2.1),(13,(.d (.sl ((a1).map aF) false))),(14,(.d (.int .i64 ((a1).length:Int)))),(15,(.d (.int .i64 a.2.2.2)))]) (fun a=>[.grow a.2.2.1 ((a.2.1).map aB)]) ?_ ?_ n ⟨⟨a2,[],(.d .bK),0⟩,_,_,ax,.refl _ _,.refl _,(ah.r rfl (ah.r rfl (ah.r rfl (ah.r rfl (ah.r rfl ah.nil))))),H53.sl [0] rfl rfl,h⟩
 ·
  intro a h; simp [bS] at h
 intro k19 a S13 H14 h
 obtain ⟨x15,x16,v17,x18⟩:=a
 replace h:bS n a1 (k19 + 1) x15 x16 x18=some r:=h
 replace H14:Has ax S13 [.grow v17 ((x16).map aB)]:=H14
 unfold bS at h
 refine aj.seq ?_
 refine aj.region E.obj rfl ?_
 refine ai.val rfl (ak rfl rfl bV) rfl ?_
 refine ai.nil ?_
 refine aj.seq ?_
 refine aj.cond rfl (fun hb20=>?_) (fun hb20=>?_)
 ·
  replace h:=bz hb20 h
  refine aj.skip ?_
  refine aj.join (B:=ax) (α:=(List Str) × (List aN) × AV) (fun a=>eD x18 (bS n a1 k19) a.1 a.2.1=some r) (fun a=>[(1,(.d (.sl ((a.1).map D.str) false))),(6,a.2.2),(13,(.d (.sl ((a1).map aF) false))),(14,(.d (.int .i64 ((a1).length:Int)))),(15,(.d (.int .i64 x18)))]) (fun a=>[.grow a.2.2 ((a.2.1).map aB)]) ?_ ?_
  ·
   intro a S21 H22 h
   obtain ⟨x23,x24,v25⟩:=a
   replace h:eD x18 (bS n a1 k19) x23 x24=some r:=h
   replace H22:Has ax S21 [.grow v25 ((x24).map aB)]:=H22
   unfold eD at h
   refine aj.region E.obj rfl ?_
   refine ai.val rfl (ak rfl rfl bP) rfl ?_
   refine ai.val rfl (aa rfl) rfl ?_
   refine ai.nil ?_
   exact ⟨⟨x23,x24,v25,(IntKind.wrap .i64 (x18 + 1))⟩,_,_,S21,.refl _ _,.refl _,(ah.r rfl (ah.r rfl (ah.r rfl (ah.r rfl (ah.r rfl ah.nil))))),H22.sl [0] rfl rfl,h⟩
  refine aj.block ?_
  refine aj.seq ?_
  refine aj.region E.obj rfl ?_
  obtain ⟨z27,hzz27,h⟩:=bind_some h
  refine ai.val rfl (bQ rfl rfl (df (enc:=aF) hzz27 nE mJ ((Seg.len _).trans fD.symm))) rfl ?_
  refine ai.val rfl (aZ rfl (Seg.kH nu fD)) rfl ?_
  refine ai.alloc H14 rfl yB mK rfl rfl (fun b28 S29 H30=>?_)
  refine ai.store H30 (i:=0) rfl rfl rfl rfl (Seg.eO _) rfl fD rfl mJ rfl rfl rfl (fun S31 H32=>?_)
  refine ai.nil ?_
  refine aj.seq ?_
  refine aj.seq ?_
  refine aj.region E.obj rfl ?_
  refine ai.val rfl (az rfl jA yU rfl) rfl ?_
  refine ai.val rfl (aL H32 (i:=0) rfl rfl (aR xN rfl)) rfl ?_
  refine ai.val rfl (ak rfl rfl dw) rfl ?_
  refine ai.nil ?_
  refine aj.cond rfl (fun hb33=>?_) (fun hb33=>?_)
  ·
   replace h:=bz hb33 h
   refine aj.seq ?_
   obtain ⟨z34,hzz34,h⟩:=bind_some h
   obtain ⟨z35,hzz35,h⟩:=bind_some h
   refine aj.qV E.obj wU Dw [(4,some 8),(5,some 9)] (by kernel_rfl) [7] (by decide) [some v17,some (.ptr b28 0 1),some (.d (.str z27.Text)),some (.d (.sl ((x15).map D.str) false)),some (.d (.str z34)),some (.d (aB (aN.mk z27.Text z34))),some (.d (.sl (([(aN.mk z27.Text z34)]).map aB) true)),none,none,none] ?_
   refine ⟨[0,1,2,3,4,5,6],by kernel_rfl,?_,_,_,rfl,rfl,.step ?_⟩
   ·
    refine .v rfl rfl rfl rfl (aa rfl) ?_
    refine .v rfl rfl rfl rfl (az rfl iJ uN rfl) ?_
    refine .v rfl rfl rfl rfl (aL H32 (i:=0) rfl rfl (aR lN rfl)) ?_
    refine .v rfl rfl rfl rfl (aa rfl) ?_
    refine .cons rfl rfl rfl (.step ?_) ?_
    ·
     refine ai.ret rfl (ay rfl rfl) (qj E _ _ _ hzz34 _ _ (au.eq .nil)) rfl ?_
     exact ai.nil ⟨_,_,rfl,fun _ ht=>by cases ht; exact ⟨rfl,.refl _⟩⟩
    refine .cons rfl rfl rfl (.step ?_) ?_
    ·
     refine ai.val rfl (bU (cs:=[(.d (.str z27.Text)),(.d (.str z34))]) mI rfl (dF) (eG rfl rfl rfl rfl (eG rfl rfl rfl rfl rfl))) rfl ?_
     refine ai.less (Less.agg' (d:=aB (aN.mk z27.Text z34)) (aQ.eq rfl (aQ.eq rfl .nil)) ((aN.eq _).trans rfl)) ?_
     exact ai.nil ⟨_,_,rfl,fun _ ht=>by cases ht; exact ⟨rfl,.refl _⟩⟩
    refine .v rfl rfl rfl rfl (aU (vs:=[(.d (aB (aN.mk z27.Text z34)))]) (ds:=[(aB (aN.mk z27.Text z34))]) xP qo sN mI jJ rfl (by decide) (.cons rfl (aN.len _) .nil) rfl (by intro d hd; simp only [List.mem_cons,List.not_mem_nil,or_false] at hd; rcases hd with rfl <;> exact aN.agg _) rfl) ?_
    exact .nil
   refine ai.append (xs:=(x16).map aB) (ys:=([(aN.mk z27.Text z34)]).map aB) (zs:=(z35).map aB) H32 rfl rfl rfl (i:=1) rfl rfl xP BL qo (fq hzz35) BO rfl (bJ (enc:=aB) (fun z=>(aN.len z).trans jJ.symm) _) (bJ (enc:=aB) (fun z=>(aN.len z).trans jJ.symm) _) BA rfl (jw hzz35) (fun v39 S40 H41=>?_)
   refine ai.nil ⟨_,_,_,rfl,(fun _ ht=>by cases ht; rfl),_,(.q (.o (.o (.o (.w v39 (.w v39 (.w (.d (.bool true)) .nil))))))),(fun _ ht=>by cases ht; exact ⟨_,rfl,.refl _⟩),?_⟩
   refine ⟨[8,9],by kernel_rfl,?_,_,rfl,?_⟩
   ·
    refine .v rfl rfl rfl rfl (ae rfl) ?_
    refine .v rfl rfl rfl rfl (ae rfl) ?_
    exact .nil
   have hr:=Option.some.inj h
   subst hr
   exact aj.ret ⟨_,rfl,rfl,gF (vs:=[v39,(.d (.bool true))]) (ds:=[(.sl ((z35).map aB) false),(.bool true)]) (au.grow H41 (i:=1) rfl (au.eq .nil))⟩
  replace h:=bu hb33 h
  refine aj.skip ?_
  refine aj.seq ?_
  refine aj.seq ?_
  refine aj.region E.obj rfl ?_
  refine ai.val rfl (aa rfl) rfl ?_
  refine ai.val rfl (aO rfl o6) rfl ?_
  refine ai.val rfl (ak rfl rfl dw) rfl ?_
  refine ai.nil ?_
  refine aj.cond rfl (fun hb42=>?_) (fun hb42=>?_)
  ·
   replace h:=bz hb42 h
   refine aj.seq ?_
   refine aj.seq ?_
   refine aj.region E.obj rfl ?_
   refine ai.val rfl (az rfl jA yU rfl) rfl ?_
   refine ai.val rfl (aL H32 (i:=0) rfl rfl (aR xN rfl)) rfl ?_
   refine ai.val rfl (ak rfl rfl dw) rfl ?_
   refine ai.nil ?_
   refine aj.cond rfl (fun hb43=>?_) (fun hb43=>?_)
   ·
    replace h:=bz hb43 h
    refine aj.seq ?_
    refine aj.region E.obj rfl ?_
    refine ai.val rfl (aa rfl) rfl ?_
    refine ai.val rfl (ae rfl) rfl ?_
    refine ai.val rfl (ae rfl) rfl ?_
    refine ai.nil ?_
    have hr:=Option.some.inj h
    subst hr
    exact aj.ret ⟨_,rfl,rfl,gF (vs:=[v17,(.d (.bool true))]) (ds:=[(.sl ((x16).map aB) false),(.bool true)]) (au.grow H32 (i:=1) rfl (au.eq .nil))⟩
   replace h:=bu hb43 h
   refine aj.skip ?_
   refine aj.seq ?_
   refine aj.region E.obj rfl ?_
   refine ai.val rfl (ae rfl) rfl ?_
   refine ai.val rfl (ae rfl) rfl ?_
   refine ai.nil ?_
   have hr:=Option.some.inj h
   subst hr
   exact aj.ret ⟨_,rfl,rfl,gF (vs:=[(.d .bK),(.d (.bool false))]) (ds:=[(.sl (([]).map aB) false),(.bool false)]) (au.fA rfl (.bK false) (au.eq .nil))⟩
  replace h:=bu hb42 h
  refine aj.skip ?_
  refine aj.seq ?_
  refine aj.region E.obj rfl ?_
  refine ai.val rfl (aa rfl) rfl ?_
  obtain ⟨z44,hzz44,h⟩:=bind_some h
  refine ai.val rfl (bQ rfl rfl (df (enc:=D.str) hzz44 je zT (((fun _=>rfl) _).trans mZ.symm))) rfl ?_
  refine ai.val rfl (aZ rfl (eu lN rfl)) rfl ?_
  refine ai.val rfl (ae rfl) rfl ?_
  refine ai.nil ?_
  refine aj.seq ?_
  refine aj.region E.obj rfl ?_
  refine ai.val rfl (aa rfl) rfl ?_
  obtain ⟨z45,hzz45,h⟩:=bind_some h
  refine ai.val rfl (xz rfl rfl je C8 (fun z=>((fun _=>rfl) z).trans mZ.symm) hzz45) rfl ?_
  refine ai.val rfl (ae rfl) rfl ?_
  refine ai.nil ?_
  refine aj.seq ?_
  refine aj.region E.obj rfl ?_
  refine ai.val rfl (az rfl jA yU rfl) rfl ?_
  refine ai.val rfl (aL H32 (i:=0) rfl rfl (aR xN rfl)) rfl ?_
  refine ai.val rfl (ak rfl rfl jB) rfl ?_
  refine ai.nil ?_
  refine aj.cond rfl (fun hb46=>?_) (fun hb46=>?_)
  ·
   replace h:=bz hb46 h
   refine aj.region E.obj rfl ?_
   refine ai.val rfl (aa rfl) rfl ?_
   refine ai.val rfl (az rfl iJ uN rfl) rfl ?_
   refine ai.val rfl (aL H32 (i:=0) rfl rfl (aR lN rfl)) rfl ?_
   refine ai.val rfl (aa rfl) rfl ?_
   refine ai.val rfl (bU (cs:=[(.d (.str z27.Text)),(.d (.str z44))]) mI rfl (dF) (eG rfl rfl rfl rfl (eG rfl rfl rfl rfl rfl))) rfl ?_
   refine ai.less (Less.agg' (d:=aB (aN.mk z27.Text z44)) (aQ.eq rfl (aQ.eq rfl .nil)) ((aN.eq _).trans rfl)) ?_
   refine ai.val rfl (aU (vs:=[(.d (aB (aN.mk z27.Text z44)))]) (ds:=[(aB (aN.mk z27.Text z44))]) xP qo sN mI jJ rfl (by decide) (.cons rfl (aN.len _) .nil) rfl (by intro d hd; simp only [List.mem_cons,List.not_mem_nil,or_false] at hd; rcases hd with rfl <;> exact aN.agg _) rfl) rfl ?_
   obtain ⟨z47,hzz47,h⟩:=bind_some h
   refine ai.append (xs:=(x16).map aB) (ys:=([(aN.mk z27.Text z44)]).map aB) (zs:=(z47).map aB) H32 rfl rfl rfl (i:=1) rfl rfl xP BL qo (fq hzz47) BO rfl (bJ (enc:=aB) (fun z=>(aN.len z).trans jJ.symm) _) (bJ (enc:=aB) (fun z=>(aN.len z).trans jJ.symm) _) BA rfl (jw hzz47) (fun v48 S49 H50=>?_)
   refine ai.val rfl (ae rfl) rfl ?_
   refine ai.nil ?_
   exact ⟨⟨z45,z47,v48⟩,_,_,S49,.refl _ _,.refl _,(ah.r rfl (ah.r rfl (ah.r rfl (ah.r rfl (ah.r rfl ah.nil))))),H50.sl [1] rfl rfl,h⟩
  replace h:=bu hb46 h
  refine aj.seq ?_
  refine aj.region E.obj rfl ?_
  refine ai.val rfl (aa rfl) rfl ?_
  refine ai.val rfl (az rfl iJ uN rfl) rfl ?_
  refine ai.val rfl (aL H32 (i:=0) rfl rfl (aR lN rfl)) rfl ?_
  refine ai.val rfl (ak rfl rfl iG) rfl ?_
  refine ai.nil ?_
  refine aj.cond rfl (fun hb51=>?_) (fun hb51=>?_)
  ·
   replace h:=bz hb51 h
   refine aj.seq ?_
   refine aj.region E.obj rfl ?_
   refine ai.val rfl (ae rfl) rfl ?_
   refine ai.val rfl (ae rfl) rfl ?_
   refine ai.nil ?_
   have hr:=Option.some.inj h
   subst hr
   exact aj.ret ⟨_,rfl,rfl,gF (vs:=[(.d .bK),(.d (.bool false))]) (ds:=[(.sl (([]).map aB) false),(.bool false)]) (au.fA rfl (.bK false) (au.eq .nil))⟩
  replace h:=bu hb51 h
  refine aj.skip ?_
  exact ⟨⟨z45,x16,v17⟩,_,_,S31,.refl _ _,.refl _,(ah.r rfl (ah.r rfl (ah.r rfl (ah.r rfl (ah.r rfl ah.nil))))),H32.sl [1] rfl rfl,h⟩
 replace h:=bu hb20 h
 refine aj.exit ?_
 refine aj.seq ?_
 refine aj.seq ?_
 refine aj.region E.obj rfl ?_
 refine ai.val rfl (aa rfl) rfl ?_
 refine ai.val rfl (aO rfl o6) rfl ?_
 refine ai.val rfl (ak rfl rfl lK) rfl ?_
 refine ai.nil ?_
 refine aj.cond rfl (fun hb52=>?_) (fun hb52=>?_)
 ·
  replace h:=bz hb52 h
  refine aj.seq ?_
  refine aj.region E.obj rfl ?_
  refine ai.val rfl (ae rfl) rfl ?_
  refine ai.val rfl (ae rfl) rfl ?_
  refine ai.nil ?_
  have hr:=Option.some.inj h
  subst hr
  exact aj.ret ⟨_,rfl,rfl,gF (vs:=[(.d .bK),(.d (.bool false))]) (ds:=[(.sl (([]).map aB) false),(.bool false)]) (au.fA rfl (.bK false) (au.eq .nil))⟩
 replace h:=bu hb52 h
 refine aj.skip ?_
 refine aj.seq ?_
 refine aj.region E.obj rfl ?_
 refine ai.val rfl (aa rfl) rfl ?_
 refine ai.val rfl (ae rfl) rfl ?_
 refine ai.val rfl (ae rfl) rfl ?_
 refine ai.nil ?_
 have hr:=Option.some.inj h
 subst hr
 exact aj.ret ⟨_,rfl,rfl,gF (vs:=[v17,(.d (.bool true))]) (ds:=[(.sl ((x16).map aB) false),(.bool true)]) (au.grow H14 (i:=0) rfl (au.eq .nil))⟩
set_option maxRecDepth 20000 in
set_option maxHeartbeats 4000000 in
theorem xH (n:Nat) (a1:pg) (a2:Str) (r:(Str × Bool)) (h:vG n a1 a2=some r):aV R cfg.P 57 [(nJ a1),(.str a2)] (.tup [.d (.str r.1),.d (.bool r.2)]):=by
 unfold vG at h
 refine aV.of_wp E.obj.toObjOk (C:=cfg) Tryd.func57 rfl Cm rfl ?_
 have H0:Has ax ax []:=Has.pure
 refine aj.seq ?_
 refine aj.region E.obj rfl ?_
 refine ai.box H0 rfl rfl rfl (pg.eO _) rfl (fun b3 S4 H5=>?_)
 refine ai.val rfl (ae rfl) rfl ?_
 refine ai.val rfl (ae rfl) rfl ?_
 refine ai.nil ?_
 refine aj.seq ?_
 refine aj.seq ?_
 refine aj.region E.obj rfl ?_
 refine ai.val rfl (az rfl xR Bj rfl) rfl ?_
 refine ai.val rfl (aL H5 (i:=0) rfl rfl (aR Aw rfl)) rfl ?_
 refine ai.val rfl (aO rfl u7) rfl ?_
 refine ai.val rfl (aa rfl) rfl ?_
 refine ai.nil ?_
 refine aj.block ?_
 refine lC.start (B:=ax) (α:=Int) (fun k a=>gX a1 a2 k a=some r) (fun a=>[(1,(.d (.str a2))),(9,(.d (.sl ((a1.Query).map aB) false))),(10,(.d (.int .i64 ((a1.Query).length:Int)))),(11,(.d (.int .i64 a)))]) (fun a=>[]) ?_ ?_ n ⟨0,_,_,S4,.refl _ _,.refl _,(ah.r rfl (ah.r rfl (ah.r rfl (ah.r rfl ah.nil)))),H5.sl [] rfl rfl,h⟩
 ·
  intro a h; simp [gX] at h
 intro k14 x13 S11 H12 h
 replace h:gX a1 a2 (k14 + 1) x13=some r:=h
 replace H12:Has ax S11 []:=H12
 unfold gX at h
 refine aj.seq ?_
 refine aj.region E.obj rfl ?_
 refine ai.val rfl (ak rfl rfl bV) rfl ?_
 refine ai.nil ?_
 refine aj.seq ?_
 refine aj.cond rfl (fun hb15=>?_) (fun hb15=>?_)
 ·
  replace h:=bz hb15 h
  refine aj.skip ?_
  refine aj.seq ?_
  refine aj.block ?_
  refine aj.seq ?_
  refine aj.region E.obj rfl ?_
  obtain ⟨z16,hzz16,h⟩:=bind_some h
  refine ai.val rfl (bQ rfl rfl (df (enc:=aB) hzz16 qo wF ((aN.len _).trans jJ.symm))) rfl ?_
  refine ai.val rfl (aZ rfl (aN.kH sN jJ)) rfl ?_
  refine ai.alloc H12 rfl A9 mI rfl rfl (fun b17 S18 H19=>?_)
  refine ai.store H19 (i:=0) rfl rfl rfl rfl (aN.eO _) rfl jJ rfl wF rfl rfl rfl (fun S20 H21=>?_)
  refine ai.nil ?_
  refine aj.seq ?_
  refine aj.region E.obj rfl ?_
  refine ai.val rfl (az rfl xE uN rfl) rfl ?_
  refine ai.val rfl (aL H21 (i:=0) rfl rfl (aR lN rfl)) rfl ?_
  refine ai.val rfl (aa rfl) rfl ?_
  refine ai.val rfl (ak rfl rfl gJ) rfl ?_
  refine ai.nil ?_
  refine aj.cond rfl (fun hb22=>?_) (fun hb22=>?_)
  ·
   replace h:=bz hb22 h
   refine aj.seq ?_
   refine aj.region E.obj rfl ?_
   refine ai.val rfl (az rfl xA uN rfl) rfl ?_
   refine ai.val rfl (aL H21 (i:=0) rfl rfl (aR lN rfl)) rfl ?_
   refine ai.val rfl (ae rfl) rfl ?_
   refine ai.val rfl (ae rfl) rfl ?_
   refine ai.nil ?_
   have hr:=Option.some.inj h
   subst hr
   exact aj.ret ⟨_,rfl,rfl,gF (vs:=[(.d (.str z16.Value)),(.d (.bool true))]) (ds:=[(.str z16.Value),(.bool true)]) (au.eq (au.eq .nil))⟩
  replace h:=bu hb22 h
  refine aj.skip ?_
  refine aj.region E.obj rfl ?_
  refine ai.val rfl (ak rfl rfl bP) rfl ?_
  refine ai.val rfl (aa rfl) rfl ?_
  refine ai.nil ?_
  exact ⟨(IntKind.wrap .i64 (x13 + 1)),_,_,S20,.refl _ _,.refl _,(ah.r rfl (ah.r rfl (ah.r rfl (ah.r rfl ah.nil)))),H21.sl [] rfl rfl,h⟩
 replace h:=bu hb15 h
 refine aj.exit ?_
 refine aj.seq ?_
 refine aj.region E.obj rfl ?_
 refine ai.val rfl (ae rfl) rfl ?_
 refine ai.val rfl (ae rfl) rfl ?_
 refine ai.nil ?_
 have hr:=Option.some.inj h
 subst hr
 exact aj.ret ⟨_,rfl,rfl,gF (vs:=[(.d (.str [])),(.d (.bool false))]) (ds:=[(.str []),(.bool false)]) (au.eq (au.eq .nil))⟩
set_option maxRecDepth 20000 in
set_option maxHeartbeats 4000000 in
theorem kr (n:Nat) (a1:(List aN)) (a2:Str) (r:(Str × Bool)) (h:iQ n a1 a2=some r):aV R cfg.P 45 [(.sl ((a1).map aB) false),(.str a2)] (.tup [.d (.str r.1),.d (.bool r.2)]):=by
 unfold iQ at h
 refine aV.of_wp E.obj.toObjOk (C:=cfg) Tryd.func45 rfl Cz rfl ?_
 have H0:Has ax ax []:=Has.pure
 refine aj.seq ?_
 refine aj.region E.obj rfl ?_
 refine ai.val rfl (ae rfl) rfl ?_
 refine ai.val rfl (ae rfl) rfl ?_
 refine ai.nil ?_
 refine aj.seq ?_
 refine aj.region E.obj rfl ?_
 refine ai.val rfl (aa rfl) rfl ?_
 refine ai.val rfl (bU (cs:=[(.d .bK),(.d (.sl ((a1).map aB) false))]) BM rfl (lY) (eG rfl rfl rfl rfl rfl)) rfl ?_
 refine ai.less (Less.agg' (d:=nJ (pg.mk [] a1)) (aQ.fA rfl (.bK false) rfl rfl (aQ.eq rfl .nil)) ((pg.eq _).trans rfl)) ?_
 refine ai.val rfl (aa rfl) rfl ?_
 obtain ⟨z3,hzz3,h⟩:=bind_some h
 refine ai.ret rfl (ay rfl rfl) (xH E _ _ _ _ hzz3 _ _ (au.eq (au.eq .nil))) rfl ?_
 refine ai.val rfl (aD rfl rfl) rfl ?_
 refine ai.val rfl (aD rfl rfl) rfl ?_
 refine ai.val rfl (ae rfl) rfl ?_
 refine ai.val rfl (ae rfl) rfl ?_
 refine ai.nil ?_
 have hr:=Option.some.inj h
 subst hr
 exact aj.ret ⟨_,rfl,rfl,gF (vs:=[(.d (.str z3.1)),(.d (.bool z3.2))]) (ds:=[(.str z3.1),(.bool z3.2)]) (au.eq (au.eq .nil))⟩
set_option maxRecDepth 20000 in
set_option maxHeartbeats 4000000 in
theorem oJ (n:Nat) (a1:Int) (r:Int) (h:mH n a1=some r):aV R cfg.P 74 [(.int .u8 a1)] (.d (.int .i64 r)):=by
 unfold mH at h
 refine aV.of_wp E.obj.toObjOk (C:=cfg) Tryd.func74 rfl Db rfl ?_
 have H0:Has ax ax []:=Has.pure
 refine aj.seq ?_
 refine aj.region E.obj rfl ?_
 refine ai.val rfl (ae rfl) rfl ?_
 refine ai.nil ?_
 refine aj.seq ?_
 refine aj.block ?_
 refine aj.seq ?_
 refine aj.region E.obj rfl ?_
 refine ai.val rfl (aa rfl) rfl ?_
 refine ai.val rfl (ak rfl rfl fK) rfl ?_
 refine ai.val rfl (aa rfl) rfl ?_
 refine ai.bE 3 9 (.d (.bool ((decide (48 ≤ a1)) && (decide (a1 ≤ 57))))) ?_ ?_
 ·
  rcases Bool.eq_false_or_eq_true ((decide (48 ≤ a1))) with hB2 | hB2
  ·
   refine ai.bool hB2 ?_
   refine ai.val rfl (aa rfl) rfl ?_
   refine ai.val rfl (ak rfl rfl iV) rfl ?_
   refine ai.val rfl (av (b:=true) rfl rfl) rfl ?_
   exact ai.nil ⟨_,rfl,(ah.put (ah.push rfl (ah.push rfl (ah.put (.refl _) (Less.eq (by rw [hB2]))))) (Less.eq (by rw [hB2]; rw [Bool.true_and])))⟩
  refine ai.bool hB2 ?_
  refine ai.no rfl rfl ?_
  refine ai.no rfl rfl ?_
  refine ai.val rfl (av (b:=false) rfl rfl) rfl ?_
  exact ai.nil ⟨_,rfl,(ah.put (ah.push rfl (ah.push rfl (ah.put (.refl _) (Less.eq (by rw [hB2]))))) (Less.eq (by rw [hB2]; rw [Bool.false_and])))⟩
 refine ai.val rfl (ae rfl) rfl ?_
 refine ai.nil ?_
 refine aj.cond rfl (fun hb3=>?_) (fun hb3=>?_)
 ·
  replace h:=bz hb3 h
  refine aj.seq ?_
  refine aj.region E.obj rfl ?_
  refine ai.val rfl (aa rfl) rfl ?_
  refine ai.val rfl (ak rfl rfl gP) rfl ?_
  refine ai.val rfl (gQ rfl Ck Dh) rfl ?_
  refine ai.val rfl (ae rfl) rfl ?_
  refine ai.nil ?_
  have hr:=Option.some.inj h
  subst hr
  exact aj.ret ⟨_,rfl,rfl,dJ (au.eq .nil)⟩
 replace h:=bu hb3 h
 refine aj.seq ?_
 refine aj.region E.obj rfl ?_
 refine ai.val rfl (aa rfl) rfl ?_
 refine ai.val rfl (ak rfl rfl fK) rfl ?_
 refine ai.val rfl (aa rfl) rfl ?_
 refine ai.bE 3 19 (.d (.bool ((decide (97 ≤ a1)) && (decide (a1 ≤ 102))))) ?_ ?_
 ·
  rcases Bool.eq_false_or_eq_true ((decide (97 ≤ a1))) with hB4 | hB4
  ·
   refine ai.bool hB4 ?_
   refine ai.val rfl (aa rfl) rfl ?_
   refine ai.val rfl (ak rfl rfl iV) rfl ?_
   refine ai.val rfl (av (b:=true) rfl rfl) rfl ?_
   exact ai.nil ⟨_,rfl,(ah.put (ah.push rfl (ah.push rfl (ah.put (.refl _) (Less.eq (by rw [hB4]))))) (Less.eq (by rw [hB4]; rw [Bool.true_and])))⟩
  refine ai.bool hB4 ?_
  refine ai.no rfl rfl ?_
  refine ai.no rfl rfl ?_
  refine ai.val rfl (av (b:=false) rfl rfl) rfl ?_
  exact ai.nil ⟨_,rfl,(ah.put (ah.push rfl (ah.push rfl (ah.put (.refl _) (Less.eq (by rw [hB4]))))) (Less.eq (by rw [hB4]; rw [Bool.false_and])))⟩
 refine ai.val rfl (ae rfl) rfl ?_
 refine ai.nil ?_
 refine aj.cond rfl (fun hb5=>?_) (fun hb5=>?_)
 ·
  replace h:=bz hb5 h
  refine aj.seq ?_
  refine aj.region E.obj rfl ?_
  refine ai.val rfl (aa rfl) rfl ?_
  refine ai.val rfl (ak rfl rfl gP) rfl ?_
  refine ai.val rfl (gQ rfl Ck Dh) rfl ?_
  refine ai.val rfl (ak rfl rfl bP) rfl ?_
  refine ai.val rfl (ae rfl) rfl ?_
  refine ai.nil ?_
  have hr:=Option.some.inj h
  subst hr
  exact aj.ret ⟨_,rfl,rfl,dJ (au.eq .nil)⟩
 replace h:=bu hb5 h
 refine aj.seq ?_
 refine aj.region E.obj rfl ?_
 refine ai.val rfl (aa rfl) rfl ?_
 refine ai.val rfl (ak rfl rfl fK) rfl ?_
 refine ai.val rfl (aa rfl) rfl ?_
 refine ai.bE 3 30 (.d (.bool ((decide (65 ≤ a1)) && (decide (a1 ≤ 70))))) ?_ ?_
 ·
  rcases Bool.eq_false_or_eq_true ((decide (65 ≤ a1))) with hB6 | hB6
  ·
   refine ai.bool hB6 ?_
   refine ai.val rfl (aa rfl) rfl ?_
   refine ai.val rfl (ak rfl rfl iV) rfl ?_
   refine ai.val rfl (av (b:=true) rfl rfl) rfl ?_
   exact ai.nil ⟨_,rfl,(ah.put (ah.push rfl (ah.push rfl (ah.put (.refl _) (Less.eq (by rw [hB6]))))) (Less.eq (by rw [hB6]; rw [Bool.true_and])))⟩
  refine ai.bool hB6 ?_
  refine ai.no rfl rfl ?_
  refine ai.no rfl rfl ?_
  refine ai.val rfl (av (b:=false) rfl rfl) rfl ?_
  exact ai.nil ⟨_,rfl,(ah.put (ah.push rfl (ah.push rfl (ah.put (.refl _) (Less.eq (by rw [hB6]))))) (Less.eq (by rw [hB6]; rw [Bool.false_and])))⟩
 refine ai.val rfl (ae rfl) rfl ?_
 refine ai.nil ?_
 refine aj.cond rfl (fun hb7=>?_) (fun hb7=>?_)
 ·
  replace h:=bz hb7 h
  refine aj.seq ?_
  refine aj.region E.obj rfl ?_
  refine ai.val rfl (aa rfl) rfl ?_
  refine ai.val rfl (ak rfl rfl gP) rfl ?_
  refine ai.val rfl (gQ rfl Ck Dh) rfl ?_
  refine ai.val rfl (ak rfl rfl bP) rfl ?_
  refine ai.val rfl (ae rfl) rfl ?_
  refine ai.nil ?_
  have hr:=Option.some.inj h
  subst hr
  exact aj.ret ⟨_,rfl,rfl,dJ (au.eq .nil)⟩
 replace h:=bu hb7 h
 refine aj.skip ?_
 refine aj.seq ?_
 refine aj.region E.obj rfl ?_
 refine ai.val rfl (ae rfl) rfl ?_
 refine ai.nil ?_
 have hr:=Option.some.inj h
 subst hr
 exact aj.ret ⟨_,rfl,rfl,dJ (au.eq .nil)⟩
set_option maxRecDepth 20000 in
set_option maxHeartbeats 4000000 in
theorem sO (n:Nat) (a1:Str) (r:(Str × Bool)) (h:nD n a1=some r):aV R cfg.P 58 [(.str a1)] (.tup [.d (.str r.1),.d (.bool r.2)]):=by
 unfold nD at h
 refine aV.of_wp E.obj.toObjOk (C:=cfg) Tryd.func58 rfl Df rfl ?_
 have H0:Has ax ax []:=Has.pure
 refine aj.seq ?_
 refine aj.region E.obj rfl ?_
 refine ai.val rfl (ae rfl) rfl ?_
 refine ai.val rfl (ae rfl) rfl ?_
 refine ai.nil ?_
 refine aj.seq ?_
 refine aj.region E.obj rfl ?_
 refine ai.rO H0 rfl AY rfl (fun b2 S3 H4=>?_)
 refine ai.nil ?_
 refine aj.seq ?_
 refine aj.block ?_
 refine lC.start (B:=ax) (α:=Str × Str) (fun k a=>dm n k a.1 a.2=some r) (fun a=>[(0,(.d (.str a.2))),(4,(.ptr b2 0 0))]) (fun a=>[.obj b2 1 (.str a.1)]) ?_ ?_ n ⟨⟨[],a1⟩,_,_,S3,.refl _ _,.refl _,(ah.r rfl (ah.r rfl ah.nil)),H4.sl [0] rfl rfl,h⟩
 ·
  intro a h; simp [dm] at h
 intro k15 a S11 H12 h
 obtain ⟨x13,x14⟩:=a
 replace h:dm n (k15 + 1) x13 x14=some r:=h
 replace H12:Has ax S11 [.obj b2 1 (.str x13)]:=H12
 unfold dm at h
 refine aj.seq ?_
 refine aj.seq ?_
 refine aj.region E.obj rfl ?_
 refine ai.val rfl (aa rfl) rfl ?_
 refine ai.val rfl (ak rfl rfl iG) rfl ?_
 refine ai.nil ?_
 refine aj.cond rfl (fun hb16=>?_) (fun hb16=>?_)
 ·
  replace h:=bz hb16 h
  refine aj.skip ?_
  refine aj.block ?_
  refine aj.seq ?_
  refine aj.region E.obj rfl ?_
  refine ai.val rfl (aa rfl) rfl ?_
  obtain ⟨z17,hzz17,h⟩:=bind_some h
  refine ai.val rfl (ic rfl rfl (eX hzz17).1 nV (eX hzz17).2) rfl ?_
  refine ai.val rfl (ae rfl) rfl ?_
  refine ai.val rfl (ae rfl) rfl ?_
  refine ai.nil ?_
  refine aj.join (B:=ax) (α:=Int × Int) (fun a=>gq x13 x14 (dm n k15) a.1 a.2=some r) (fun a=>[(0,(.d (.str x14))),(4,(.ptr b2 0 0)),(5,(.d (.int .u8 a.1))),(6,(.d (.int .i64 a.2)))]) (fun a=>[.obj b2 1 (.str x13)]) ?_ ?_
  ·
   intro a S18 H19 h
   obtain ⟨x20,x21⟩:=a
   replace h:gq x13 x14 (dm n k15) x20 x21=some r:=h
   replace H19:Has ax S18 [.obj b2 1 (.str x13)]:=H19
   unfold gq at h
   refine aj.seq ?_
   refine aj.region E.obj rfl ?_
   refine ai.val rfl (aa rfl) rfl ?_
   obtain ⟨z25,hzz25,h⟩:=bind_some h
   refine ai.wb E.bld H19 rfl rfl (i:=0) rfl hzz25 rfl (fun S23 H24=>?_)
   refine ai.nil ?_
   refine aj.region E.obj rfl ?_
   refine ai.val rfl (aa rfl) rfl ?_
   refine ai.val rfl (aa rfl) rfl ?_
   obtain ⟨z26,hzz26,h⟩:=bind_some h
   refine ai.val rfl (lX rfl rfl nV hzz26) rfl ?_
   refine ai.val rfl (ae rfl) rfl ?_
   refine ai.nil ?_
   exact ⟨⟨z25,z26⟩,_,_,S23,.refl _ _,.refl _,(ah.r rfl (ah.r rfl ah.nil)),H24.sl [0] rfl rfl,h⟩
  refine aj.seq ?_
  refine aj.region E.obj rfl ?_
  refine ai.val rfl (aa rfl) rfl ?_
  refine ai.val rfl (ak rfl rfl dw) rfl ?_
  refine ai.nil ?_
  refine aj.cond rfl (fun hb27=>?_) (fun hb27=>?_)
  ·
   replace h:=bz hb27 h
   refine aj.seq ?_
   refine aj.seq ?_
   refine aj.region E.obj rfl ?_
   refine ai.val rfl (aa rfl) rfl ?_
   refine ai.val rfl (dA rfl (dx nV) rfl) rfl ?_
   refine ai.val rfl (ak rfl rfl bV) rfl ?_
   refine ai.nil ?_
   refine aj.cond rfl (fun hb28=>?_) (fun hb28=>?_)
   ·
    replace h:=bz hb28 h
    refine aj.seq ?_
    refine aj.region E.obj rfl ?_
    refine ai.val rfl (ae rfl) rfl ?_
    refine ai.val rfl (ae rfl) rfl ?_
    refine ai.nil ?_
    have hr:=Option.some.inj h
    subst hr
    exact aj.ret ⟨_,rfl,rfl,gF (vs:=[(.d (.str [])),(.d (.bool false))]) (ds:=[(.str []),(.bool false)]) (au.eq (au.eq .nil))⟩
   replace h:=bu hb28 h
   refine aj.skip ?_
   refine aj.seq ?_
   obtain ⟨z29,hzz29,h⟩:=bind_some h
   obtain ⟨z30,hzz30,h⟩:=bind_some h
   obtain ⟨z31,hzz31,h⟩:=bind_some h
   obtain ⟨z32,hzz32,h⟩:=bind_some h
   refine aj.qV E.obj wU Dn [(0,none),(4,none),(7,some 6),(8,some 7)] (by kernel_rfl) [] (by decide) [some (.d (.str x14)),some (.d (.int .u8 (z29.toNat:Int))),some (.d (.int .i64 z30)),some (.d (.str x14)),some (.d (.int .u8 (z31.toNat:Int))),some (.d (.int .i64 z32)),some (.d (.int .i64 z30)),some (.d (.int .i64 z32))] ?_
   refine ⟨[0,1,2,3,4,5,6,7],by kernel_rfl,?_,_,rfl,?_⟩
   ·
    refine .v rfl rfl rfl rfl (aa rfl) ?_
    refine .v rfl rfl rfl rfl (ic rfl rfl (eX hzz29).1 nV (eX hzz29).2) ?_
    refine .cons rfl rfl rfl (.step ?_) ?_
    ·
     refine ai.ret rfl (ay rfl rfl) (oJ E _ _ _ hzz30 _ _ (au.eq .nil)) rfl ?_
     exact ai.nil ⟨_,_,rfl,fun _ ht=>by cases ht; exact ⟨rfl,.refl _⟩⟩
    refine .v rfl rfl rfl rfl (aa rfl) ?_
    refine .v rfl rfl rfl rfl (ic rfl rfl (eX hzz31).1 nV (eX hzz31).2) ?_
    refine .cons rfl rfl rfl (.step ?_) ?_
    ·
     refine ai.ret rfl (ay rfl rfl) (oJ E _ _ _ hzz32 _ _ (au.eq .nil)) rfl ?_
     exact ai.nil ⟨_,_,rfl,fun _ ht=>by cases ht; exact ⟨rfl,.refl _⟩⟩
    refine .v rfl rfl rfl rfl (ae rfl) ?_
    refine .v rfl rfl rfl rfl (ae rfl) ?_
    exact .nil
   refine aj.seq ?_
   refine aj.seq ?_
   refine aj.region E.obj rfl ?_
   refine ai.val rfl (aa rfl) rfl ?_
   refine ai.val rfl (ak rfl rfl bV) rfl ?_
   refine ai.val rfl (aa rfl) rfl ?_
   refine ai.bE 3 29 (.d (.bool ((decide (z30 < 0)) || (decide (z32 < 0))))) ?_ ?_
   ·
    rcases Bool.eq_false_or_eq_true ((decide (z30 < 0))) with hB33 | hB33
    ·
     refine ai.bool hB33 ?_
     refine ai.no rfl rfl ?_
     refine ai.no rfl rfl ?_
     refine ai.val rfl (av (b:=true) rfl rfl) rfl ?_
     exact ai.nil ⟨_,rfl,(ah.put (ah.push rfl (ah.push rfl (ah.put (.refl _) (Less.eq (by rw [hB33]))))) (Less.eq (by rw [hB33]; rw [Bool.true_or])))⟩
    refine ai.bool hB33 ?_
    refine ai.val rfl (aa rfl) rfl ?_
    refine ai.val rfl (ak rfl rfl bV) rfl ?_
    refine ai.val rfl (av (b:=false) rfl rfl) rfl ?_
    exact ai.nil ⟨_,rfl,(ah.put (ah.push rfl (ah.push rfl (ah.put (.refl _) (Less.eq (by rw [hB33]))))) (Less.eq (by rw [hB33]; rw [Bool.false_or])))⟩
   refine ai.nil ?_
   refine aj.cond rfl (fun hb34=>?_) (fun hb34=>?_)
   ·
    replace h:=bz hb34 h
    refine aj.seq ?_
    refine aj.region E.obj rfl ?_
    refine ai.val rfl (ae rfl) rfl ?_
    refine ai.val rfl (ae rfl) rfl ?_
    refine ai.nil ?_
    have hr:=Option.some.inj h
    subst hr
    exact aj.ret ⟨_,rfl,rfl,gF (vs:=[(.d (.str [])),(.d (.bool false))]) (ds:=[(.str []),(.bool false)]) (au.eq (au.eq .nil))⟩
   replace h:=bu hb34 h
   refine aj.skip ?_
   refine aj.region E.obj rfl ?_
   refine ai.val rfl (aa rfl) rfl ?_
   obtain ⟨z35,hzz35,h⟩:=bind_some h
   refine ai.val rfl (ak rfl rfl (yM hzz35)) rfl ?_
   refine ai.val rfl (aa rfl) rfl ?_
   refine ai.val rfl (ak rfl rfl Ac) rfl ?_
   refine ai.val rfl (gQ rfl Dm Dj) rfl ?_
   refine ai.val rfl (ae rfl) rfl ?_
   refine ai.val rfl (ae rfl) rfl ?_
   refine ai.nil ?_
   exact ⟨⟨(IntKind.wrap .u8 (Cr .i64 z35 z32)),3⟩,_,_,S11,.refl _ _,.refl _,(ah.r rfl (ah.r rfl (ah.r rfl (ah.r rfl ah.nil)))),H12.sl [0] rfl rfl,h⟩
  replace h:=bu hb27 h
  refine aj.seq ?_
  refine aj.region E.obj rfl ?_
  refine ai.val rfl (aa rfl) rfl ?_
  obtain ⟨z36,hzz36,h⟩:=bind_some h
  refine ai.ret rfl (ay rfl rfl) (nX E _ _ _ hzz36 _ _ (au.eq .nil)) rfl ?_
  refine ai.val rfl (bH rfl) rfl ?_
  refine ai.nil ?_
  refine aj.cond rfl (fun hb37=>?_) (fun hb37=>?_)
  ·
   replace h:=bz hb37 h
   refine aj.seq ?_
   refine aj.region E.obj rfl ?_
   refine ai.val rfl (ae rfl) rfl ?_
   refine ai.val rfl (ae rfl) rfl ?_
   refine ai.nil ?_
   have hr:=Option.some.inj h
   subst hr
   exact aj.ret ⟨_,rfl,rfl,gF (vs:=[(.d (.str [])),(.d (.bool false))]) (ds:=[(.str []),(.bool false)]) (au.eq (au.eq .nil))⟩
  replace h:=bu hb37 h
  refine aj.skip ?_
  exact ⟨⟨(z17.toNat:Int),1⟩,_,_,S11,.refl _ _,.refl _,(ah.r rfl (ah.r rfl (ah.r rfl (ah.r rfl ah.nil)))),H12.sl [0] rfl rfl,h⟩
 replace h:=bu hb16 h
 refine aj.exit ?_
 refine aj.seq ?_
 refine aj.region E.obj rfl ?_
 refine ai.st E.bld H12 rfl rfl (i:=0) rfl rfl (fun S38 H39=>?_)
 refine ai.val rfl (ae rfl) rfl ?_
 refine ai.val rfl (ae rfl) rfl ?_
 refine ai.nil ?_
 have hr:=Option.some.inj h
 subst hr
 exact aj.ret ⟨_,rfl,rfl,gF (vs:=[(.d (.str x13)),(.d (.bool true))]) (ds:=[(.str x13),(.bool true)]) (au.eq (au.eq .nil))⟩
set_option maxRecDepth 20000 in
set_option maxHeartbeats 4000000 in
theorem nS (n:Nat) (a1:Str) (r:((List Str) × Bool)) (h:jv n a1=some r):aV R cfg.P 46 [(.str a1)] (.tup [.d (.sl ((r.1).map D.str) false),.d (.bool r.2)]):=by
 unfold jv at h
 refine aV.of_wp E.obj.toObjOk (C:=cfg) Tryd.func46 rfl Cc rfl ?_
 have H0:Has ax ax []:=Has.pure
 refine aj.seq ?_
 refine aj.region E.obj rfl ?_
 refine ai.val rfl (ae rfl) rfl ?_
 refine ai.val rfl (ae rfl) rfl ?_
 refine ai.nil ?_
 refine aj.seq ?_
 refine aj.seq ?_
 refine aj.region E.obj rfl ?_
 refine ai.val rfl (aa rfl) rfl ?_
 refine ai.val rfl (ak rfl rfl gJ) rfl ?_
 refine ai.nil ?_
 refine aj.cond rfl (fun hb2=>?_) (fun hb2=>?_)
 ·
  replace h:=bz hb2 h
  refine aj.seq ?_
  refine aj.region E.obj rfl ?_
  refine ai.val rfl (ae rfl) rfl ?_
  refine ai.val rfl (ae rfl) rfl ?_
  refine ai.nil ?_
  have hr:=Option.some.inj h
  subst hr
  exact aj.ret ⟨_,rfl,rfl,gF (vs:=[(.d .bK),(.d (.bool true))]) (ds:=[(.sl (([]).map D.str) false),(.bool true)]) (au.fA rfl (.bK false) (au.eq .nil))⟩
 replace h:=bu hb2 h
 refine aj.skip ?_
 refine aj.seq ?_
 refine aj.region E.obj rfl ?_
 refine ai.val rfl (ae rfl) rfl ?_
 refine ai.nil ?_
 refine aj.seq ?_
 refine aj.seq ?_
 refine aj.region E.obj rfl ?_
 refine ai.val rfl (aa rfl) rfl ?_
 obtain ⟨z3,hzz3,h⟩:=bind_some h
 refine ai.ret rfl (ay rfl rfl) (E.strings_Split_ok _ _ _ _ hzz3 _ _ (au.eq (au.eq .nil))) rfl ?_
 refine ai.val rfl (aO rfl o6) rfl ?_
 refine ai.val rfl (aa rfl) rfl ?_
 refine ai.nil ?_
 refine aj.block ?_
 have H26:=H0.yO
 refine lC.start (B:=ax) (α:=(List Str) × AV × Int) (fun k a=>dD n z3 k a.1 a.2.2=some r) (fun a=>[(4,a.2.1),(12,(.d (.sl ((z3).map D.str) false))),(13,(.d (.int .i64 ((z3).length:Int)))),(14,(.d (.int .i64 a.2.2)))]) (fun a=>[.grow a.2.1 ((a.1).map D.str)]) ?_ ?_ n ⟨⟨[],(.d .bK),0⟩,_,_,ax,.refl _ _,.refl _,(ah.r rfl (ah.r rfl (ah.r rfl (ah.r rfl ah.nil)))),H26.sl [0] rfl rfl,h⟩
 ·
  intro a h; simp [dD] at h
 intro k16 a S11 H12 h
 obtain ⟨x13,v14,x15⟩:=a
 replace h:dD n z3 (k16 + 1) x13 x15=some r:=h
 replace H12:Has ax S11 [.grow v14 ((x13).map D.str)]:=H12
 unfold dD at h
 refine aj.seq ?_
 refine aj.region E.obj rfl ?_
 refine ai.val rfl (ak rfl rfl bV) rfl ?_
 refine ai.nil ?_
 refine aj.seq ?_
 refine aj.cond rfl (fun hb17=>?_) (fun hb17=>?_)
 ·
  replace h:=bz hb17 h
  refine aj.skip ?_
  refine aj.seq ?_
  refine aj.block ?_
  refine aj.seq ?_
  refine aj.region E.obj rfl ?_
  obtain ⟨z18,hzz18,h⟩:=bind_some h
  refine ai.val rfl (bQ rfl rfl (df (enc:=D.str) hzz18 je zT (((fun _=>rfl) _).trans mZ.symm))) rfl ?_
  refine ai.val rfl (aZ rfl (eu lN rfl)) rfl ?_
  refine ai.val rfl (ae rfl) rfl ?_
  refine ai.nil ?_
  refine aj.seq ?_
  refine aj.region E.obj rfl ?_
  refine ai.val rfl (aa rfl) rfl ?_
  obtain ⟨z19,hzz19,h⟩:=bind_some h
  refine ai.ret rfl (ay rfl rfl) (sO E _ _ _ hzz19 _ _ (au.eq .nil)) rfl ?_
  refine ai.val rfl (aa rfl) rfl ?_
  refine ai.val rfl (aD rfl rfl) rfl ?_
  refine ai.val rfl (aD rfl rfl) rfl ?_
  refine ai.val rfl (ae rfl) rfl ?_
  refine ai.val rfl (ae rfl) rfl ?_
  refine ai.nil ?_
  refine aj.seq ?_
  refine aj.seq ?_
  refine aj.region E.obj rfl ?_
  refine ai.val rfl (aa rfl) rfl ?_
  refine ai.val rfl (bH rfl) rfl ?_
  refine ai.val rfl (aa rfl) rfl ?_
  refine ai.bE 4 29 (.d (.bool ((!z19.2) || (((x13).length:Int) == 8)))) ?_ ?_
  ·
   rcases Bool.eq_false_or_eq_true ((!z19.2)) with hB20 | hB20
   ·
    refine ai.bool hB20 ?_
    refine ai.no rfl rfl ?_
    refine ai.no rfl rfl ?_
    refine ai.no rfl rfl ?_
    refine ai.val rfl (av (b:=true) rfl rfl) rfl ?_
    exact ai.nil ⟨_,rfl,(ah.put (ah.push rfl (ah.push rfl (ah.push rfl (ah.put (.refl _) (Less.eq (by rw [hB20])))))) (Less.eq (by rw [hB20]; rw [Bool.true_or])))⟩
   refine ai.bool hB20 ?_
   refine ai.val rfl (aa rfl) rfl ?_
   refine ai.val rfl (uB H12 (i:=0) rfl rfl o6) rfl ?_
   refine ai.val rfl (ak rfl rfl dw) rfl ?_
   refine ai.val rfl (av (b:=false) rfl rfl) rfl ?_
   exact ai.nil ⟨_,rfl,(ah.put (ah.push rfl (ah.push rfl (ah.push rfl (ah.put (.refl _) (Less.eq (by rw [hB20])))))) (Less.eq (by rw [hB20]; rw [Bool.false_or])))⟩
  refine ai.nil ?_
  refine aj.cond rfl (fun hb21=>?_) (fun hb21=>?_)
  ·
   replace h:=bz hb21 h
   refine aj.seq ?_
   refine aj.region E.obj rfl ?_
   refine ai.val rfl (ae rfl) rfl ?_
   refine ai.val rfl (ae rfl) rfl ?_
   refine ai.nil ?_
   have hr:=Option.some.inj h
   subst hr
   exact aj.ret ⟨_,rfl,rfl,gF (vs:=[(.d .bK),(.d (.bool false))]) (ds:=[(.sl (([]).map D.str) false),(.bool false)]) (au.fA rfl (.bK false) (au.eq .nil))⟩
  replace h:=bu hb21 h
  refine aj.skip ?_
  refine aj.region E.obj rfl ?_
  refine ai.val rfl (aa rfl) rfl ?_
  refine ai.val rfl (aa rfl) rfl ?_
  refine ai.val rfl (aU (vs:=[(.d (.str z19.1))]) (ds:=[(.str z19.1)]) oh je lN Au mZ rfl (by decide) (.cons rfl rfl .nil) rfl (by intro d hd; simp only [List.mem_cons,List.not_mem_nil,or_false] at hd; rcases hd with rfl <;> rfl) rfl) rfl ?_
  obtain ⟨z22,hzz22,h⟩:=bind_some h
  refine ai.append (xs:=(x13).map D.str) (ys:=([z19.1]).map D.str) (zs:=(z22).map D.str) H12 rfl rfl rfl (i:=0) rfl rfl oh yJ je (fq hzz22) Bt rfl (bJ (enc:=D.str) (fun _=>mZ.symm) _) (bJ (enc:=D.str) (fun _=>mZ.symm) _) Bu rfl (jw hzz22) (fun v23 S24 H25=>?_)
  refine ai.val rfl (ae rfl) rfl ?_
  refine ai.nil ?_
  refine aj.region E.obj rfl ?_
  refine ai.val rfl (ak rfl rfl bP) rfl ?_
  refine ai.val rfl (aa rfl) rfl ?_
  refine ai.nil ?_
  exact ⟨⟨z22,v23,(IntKind.wrap .i64 (x15 + 1))⟩,_,_,S24,.refl _ _,.refl _,(ah.r rfl (ah.r rfl (ah.r rfl (ah.r rfl ah.nil)))),H25.sl [0] rfl rfl,h⟩
 replace h:=bu hb17 h
 refine aj.exit ?_
 refine aj.seq ?_
 refine aj.region E.obj rfl ?_
 refine ai.val rfl (aa rfl) rfl ?_
 refine ai.val rfl (ae rfl) rfl ?_
 refine ai.val rfl (ae rfl) rfl ?_
 refine ai.nil ?_
 have hr:=Option.some.inj h
 subst hr
 exact aj.ret ⟨_,rfl,rfl,gF (vs:=[v14,(.d (.bool true))]) (ds:=[(.sl ((x13).map D.str) false),(.bool true)]) (au.grow H12 (i:=0) rfl (au.eq .nil))⟩
set_option maxRecDepth 20000 in
set_option maxHeartbeats 4000000 in
theorem qg (n:Nat) (a1:(List Seg)) (a2:(List aN)) (r:((List Str) × Bool)) (h:kR n a1 a2=some r):aV R cfg.P 25 [(.sl ((a1).map aF) false),(.sl ((a2).map aB) false)] (.tup [.d (.sl ((r.1).map D.str) false),.d (.bool r.2)]):=by
 unfold kR at h
 refine aV.of_wp E.obj.toObjOk (C:=cfg) Tryd.func25 rfl Cf rfl ?_
 have H0:Has ax ax []:=Has.pure
 refine aj.seq ?_
 refine aj.region E.obj rfl ?_
 refine ai.val rfl (ae rfl) rfl ?_
 refine ai.val rfl (ae rfl) rfl ?_
 refine ai.nil ?_
 refine aj.seq ?_
 refine aj.region E.obj rfl ?_
 refine ai.val rfl (ae rfl) rfl ?_
 refine ai.nil ?_
 refine aj.seq ?_
 refine aj.seq ?_
 refine aj.region E.obj rfl ?_
 refine ai.val rfl (aa rfl) rfl ?_
 refine ai.val rfl (aO rfl nZ) rfl ?_
 refine ai.val rfl (aa rfl) rfl ?_
 refine ai.nil ?_
 refine aj.block ?_
 have H53:=H0.yO
 refine lC.start (B:=ax) (α:=(List Str) × AV × Int) (fun k a=>bD n a1 a2 k a.1 a.2.2=some r) (fun a=>[(1,(.d (.sl ((a2).map aB) false))),(6,a.2.1),(13,(.d (.sl ((a1).map aF) false))),(14,(.d (.int .i64 ((a1).length:Int)))),(15,(.d (.int .i64 a.2.2)))]) (fun a=>[.grow a.2.1 ((a.1).map D.str)]) ?_ ?_ n ⟨⟨[],(.d .bK),0⟩,_,_,ax,.refl _ _,.refl _,(ah.r rfl (ah.r rfl (ah.r rfl (ah.r rfl (ah.r rfl ah.nil))))),H53.sl [0] rfl rfl,h⟩
 ·
  intro a h; simp [bD] at h
 intro k15 a S10 H11 h
 obtain ⟨x12,v13,x14⟩:=a
 replace h:bD n a1 a2 (k15 + 1) x12 x14=some r:=h
 replace H11:Has ax S10 [.grow v13 ((x12).map D.str)]:=H11
 unfold bD at h
 refine aj.seq ?_
 refine aj.region E.obj rfl ?_
 refine ai.val rfl (ak rfl rfl bV) rfl ?_
 refine ai.nil ?_
 refine aj.seq ?_
 refine aj.cond rfl (fun hb16=>?_) (fun hb16=>?_)
 ·
  replace h:=bz hb16 h
  refine aj.skip ?_
  refine aj.join (B:=ax) (α:=(List Str) × AV) (fun a=>cZ x14 (bD n a1 a2 k15) a.1=some r) (fun a=>[(1,(.d (.sl ((a2).map aB) false))),(6,a.2),(13,(.d (.sl ((a1).map aF) false))),(14,(.d (.int .i64 ((a1).length:Int)))),(15,(.d (.int .i64 x14)))]) (fun a=>[.grow a.2 ((a.1).map D.str)]) ?_ ?_
  ·
   intro a S17 H18 h
   obtain ⟨x19,v20⟩:=a
   replace h:cZ x14 (bD n a1 a2 k15) x19=some r:=h
   replace H18:Has ax S17 [.grow v20 ((x19).map D.str)]:=H18
   unfold cZ at h
   refine aj.region E.obj rfl ?_
   refine ai.val rfl (ak rfl rfl bP) rfl ?_
   refine ai.val rfl (aa rfl) rfl ?_
   refine ai.nil ?_
   exact ⟨⟨x19,v20,(IntKind.wrap .i64 (x14 + 1))⟩,_,_,S17,.refl _ _,.refl _,(ah.r rfl (ah.r rfl (ah.r rfl (ah.r rfl (ah.r rfl ah.nil))))),H18.sl [0] rfl rfl,h⟩
  refine aj.block ?_
  refine aj.seq ?_
  refine aj.region E.obj rfl ?_
  obtain ⟨z22,hzz22,h⟩:=bind_some h
  refine ai.val rfl (bQ rfl rfl (df (enc:=aF) hzz22 nE mJ ((Seg.len _).trans fD.symm))) rfl ?_
  refine ai.val rfl (aZ rfl (Seg.kH nu fD)) rfl ?_
  refine ai.alloc H11 rfl yB mK rfl rfl (fun b23 S24 H25=>?_)
  refine ai.store H25 (i:=0) rfl rfl rfl rfl (Seg.eO _) rfl fD rfl mJ rfl rfl rfl (fun S26 H27=>?_)
  refine ai.nil ?_
  refine aj.seq ?_
  refine aj.region E.obj rfl ?_
  refine ai.val rfl (aa rfl) rfl ?_
  refine ai.val rfl (az rfl iJ uN rfl) rfl ?_
  refine ai.val rfl (aL H27 (i:=0) rfl rfl (aR lN rfl)) rfl ?_
  obtain ⟨z28,hzz28,h⟩:=bind_some h
  refine ai.ret rfl (ay rfl rfl) (kr E _ _ _ _ hzz28 _ _ (au.eq (au.eq .nil))) rfl ?_
  refine ai.val rfl (aa rfl) rfl ?_
  refine ai.val rfl (aD rfl rfl) rfl ?_
  refine ai.val rfl (aD rfl rfl) rfl ?_
  refine ai.val rfl (ae rfl) rfl ?_
  refine ai.val rfl (ae rfl) rfl ?_
  refine ai.nil ?_
  refine aj.seq ?_
  refine aj.region E.obj rfl ?_
  refine ai.val rfl (az rfl jA yU rfl) rfl ?_
  refine ai.val rfl (aL H27 (i:=0) rfl rfl (aR xN rfl)) rfl ?_
  refine ai.nil ?_
  refine aj.block ?_
  refine aj.seq ?_
  refine aj.region E.obj rfl ?_
  refine ai.val rfl (ak rfl rfl dw) rfl ?_
  refine ai.val rfl (ae rfl) rfl ?_
  refine ai.nil ?_
  refine aj.cond rfl (fun hb29=>?_) (fun hb29=>?_)
  ·
   replace h:=bz hb29 h
   refine aj.region E.obj rfl ?_
   refine ai.val rfl (aa rfl) rfl ?_
   refine ai.val rfl (az rfl iJ uN rfl) rfl ?_
   refine ai.val rfl (aL H27 (i:=0) rfl rfl (aR lN rfl)) rfl ?_
   refine ai.val rfl (aU (vs:=[(.d (.str z22.Text))]) (ds:=[(.str z22.Text)]) oh je lN Au mZ rfl (by decide) (.cons rfl rfl .nil) rfl (by intro d hd; simp only [List.mem_cons,List.not_mem_nil,or_false] at hd; rcases hd with rfl <;> rfl) rfl) rfl ?_
   obtain ⟨z30,hzz30,h⟩:=bind_some h
   refine ai.append (xs:=(x12).map D.str) (ys:=([z22.Text]).map D.str) (zs:=(z30).map D.str) H27 rfl rfl rfl (i:=1) rfl rfl oh yJ je (fq hzz30) Bt rfl (bJ (enc:=D.str) (fun _=>mZ.symm) _) (bJ (enc:=D.str) (fun _=>mZ.symm) _) Bu rfl (jw hzz30) (fun v31 S32 H33=>?_)
   refine ai.val rfl (ae rfl) rfl ?_
   refine ai.nil ?_
   exact ⟨⟨z30,v31⟩,_,_,S32,.refl _ _,.refl _,(ah.r rfl (ah.r rfl (ah.r rfl (ah.r rfl (ah.r rfl ah.nil))))),H33.sl [1] rfl rfl,h⟩
  replace h:=bu hb29 h
  refine aj.seq ?_
  refine aj.region E.obj rfl ?_
  refine ai.val rfl (ak rfl rfl dw) rfl ?_
  refine ai.val rfl (ae rfl) rfl ?_
  refine ai.nil ?_
  refine aj.cond rfl (fun hb34=>?_) (fun hb34=>?_)
  ·
   replace h:=bz hb34 h
   refine aj.seq ?_
   refine aj.seq ?_
   refine aj.region E.obj rfl ?_
   refine ai.val rfl (aa rfl) rfl ?_
   refine ai.val rfl (bH rfl) rfl ?_
   refine ai.nil ?_
   refine aj.cond rfl (fun hb35=>?_) (fun hb35=>?_)
   ·
    replace h:=bz hb35 h
    refine aj.seq ?_
    refine aj.region E.obj rfl ?_
    refine ai.val rfl (ae rfl) rfl ?_
    refine ai.val rfl (ae rfl) rfl ?_
    refine ai.nil ?_
    have hr:=Option.some.inj h
    subst hr
    exact aj.ret ⟨_,rfl,rfl,gF (vs:=[(.d .bK),(.d (.bool false))]) (ds:=[(.sl (([]).map D.str) false),(.bool false)]) (au.fA rfl (.bK false) (au.eq .nil))⟩
   replace h:=bu hb35 h
   refine aj.skip ?_
   refine aj.region E.obj rfl ?_
   refine ai.val rfl (aa rfl) rfl ?_
   refine ai.val rfl (aa rfl) rfl ?_
   refine ai.val rfl (aU (vs:=[(.d (.str z28.1))]) (ds:=[(.str z28.1)]) oh je lN Au mZ rfl (by decide) (.cons rfl rfl .nil) rfl (by intro d hd; simp only [List.mem_cons,List.not_mem_nil,or_false] at hd; rcases hd with rfl <;> rfl) rfl) rfl ?_
   obtain ⟨z36,hzz36,h⟩:=bind_some h
   refine ai.append (xs:=(x12).map D.str) (ys:=([z28.1]).map D.str) (zs:=(z36).map D.str) H27 rfl rfl rfl (i:=1) rfl rfl oh yJ je (fq hzz36) Bt rfl (bJ (enc:=D.str) (fun _=>mZ.symm) _) (bJ (enc:=D.str) (fun _=>mZ.symm) _) Bu rfl (jw hzz36) (fun v37 S38 H39=>?_)
   refine ai.val rfl (ae rfl) rfl ?_
   refine ai.nil ?_
   exact ⟨⟨z36,v37⟩,_,_,S38,.refl _ _,.refl _,(ah.r rfl (ah.r rfl (ah.r rfl (ah.r rfl (ah.r rfl ah.nil))))),H39.sl [1] rfl rfl,h⟩
  replace h:=bu hb34 h
  refine aj.seq ?_
  refine aj.region E.obj rfl ?_
  refine ai.val rfl (ak rfl rfl dw) rfl ?_
  refine ai.val rfl (ae rfl) rfl ?_
  refine ai.nil ?_
  refine aj.cond rfl (fun hb40=>?_) (fun hb40=>?_)
  ·
   replace h:=bz hb40 h
   refine aj.seq ?_
   refine aj.region E.obj rfl ?_
   refine ai.val rfl (aa rfl) rfl ?_
   refine ai.nil ?_
   refine aj.cond rfl (fun hb41=>?_) (fun hb41=>?_)
   ·
    replace h:=bz hb41 h
    refine aj.region E.obj rfl ?_
    refine ai.val rfl (aa rfl) rfl ?_
    refine ai.val rfl (aa rfl) rfl ?_
    refine ai.val rfl (aU (vs:=[(.d (.str z28.1))]) (ds:=[(.str z28.1)]) oh je lN Au mZ rfl (by decide) (.cons rfl rfl .nil) rfl (by intro d hd; simp only [List.mem_cons,List.not_mem_nil,or_false] at hd; rcases hd with rfl <;> rfl) rfl) rfl ?_
    obtain ⟨z42,hzz42,h⟩:=bind_some h
    refine ai.append (xs:=(x12).map D.str) (ys:=([z28.1]).map D.str) (zs:=(z42).map D.str) H27 rfl rfl rfl (i:=1) rfl rfl oh yJ je (fq hzz42) Bt rfl (bJ (enc:=D.str) (fun _=>mZ.symm) _) (bJ (enc:=D.str) (fun _=>mZ.symm) _) Bu rfl (jw hzz42) (fun v43 S44 H45=>?_)
    refine ai.val rfl (ae rfl) rfl ?_
    refine ai.nil ?_
    exact ⟨⟨z42,v43⟩,_,_,S44,.refl _ _,.refl _,(ah.r rfl (ah.r rfl (ah.r rfl (ah.r rfl (ah.r rfl ah.nil))))),H45.sl [1] rfl rfl,h⟩
   replace h:=bu hb41 h
   refine aj.skip ?_
   exact ⟨⟨x12,v13⟩,_,_,S26,.refl _ _,.refl _,(ah.r rfl (ah.r rfl (ah.r rfl (ah.r rfl (ah.r rfl ah.nil))))),H27.sl [1] rfl rfl,h⟩
  replace h:=bu hb40 h
  refine aj.seq ?_
  refine aj.region E.obj rfl ?_
  refine ai.val rfl (aa rfl) rfl ?_
  obtain ⟨z46,hzz46,h⟩:=bind_some h
  refine ai.ret rfl (ay rfl rfl) (nS E _ _ _ hzz46 _ _ (au.eq .nil)) rfl ?_
  refine ai.val rfl (aa rfl) rfl ?_
  refine ai.val rfl (aD rfl rfl) rfl ?_
  refine ai.val rfl (aD rfl rfl) rfl ?_
  refine ai.val rfl (ae rfl) rfl ?_
  refine ai.val rfl (ae rfl) rfl ?_
  refine ai.nil ?_
  refine aj.seq ?_
  refine aj.seq ?_
  refine aj.region E.obj rfl ?_
  refine ai.val rfl (aa rfl) rfl ?_
  refine ai.val rfl (bH rfl) rfl ?_
  refine ai.val rfl (aa rfl) rfl ?_
  refine ai.bE 3 38 (.d (.bool ((!z28.2) || (!z46.2)))) ?_ ?_
  ·
   rcases Bool.eq_false_or_eq_true ((!z28.2)) with hB47 | hB47
   ·
    refine ai.bool hB47 ?_
    refine ai.no rfl rfl ?_
    refine ai.no rfl rfl ?_
    refine ai.val rfl (av (b:=true) rfl rfl) rfl ?_
    exact ai.nil ⟨_,rfl,(ah.put (ah.push rfl (ah.push rfl (ah.put (.refl _) (Less.eq (by rw [hB47]))))) (Less.eq (by rw [hB47]; rw [Bool.true_or])))⟩
   refine ai.bool hB47 ?_
   refine ai.val rfl (aa rfl) rfl ?_
   refine ai.val rfl (bH rfl) rfl ?_
   refine ai.val rfl (av (b:=false) rfl rfl) rfl ?_
   exact ai.nil ⟨_,rfl,(ah.put (ah.push rfl (ah.push rfl (ah.put (.refl _) (Less.eq (by rw [hB47]))))) (Less.eq (by rw [hB47]; rw [Bool.false_or])))⟩
  refine ai.nil ?_
  refine aj.cond rfl (fun hb48=>?_) (fun hb48=>?_)
  ·
   replace h:=bz hb48 h
   refine aj.seq ?_
   refine aj.region E.obj rfl ?_
   refine ai.val rfl (ae rfl) rfl ?_
   refine ai.val rfl (ae rfl) rfl ?_
   refine ai.nil ?_
   have hr:=Option.some.inj h
   subst hr
   exact aj.ret ⟨_,rfl,rfl,gF (vs:=[(.d .bK),(.d (.bool false))]) (ds:=[(.sl (([]).map D.str) false),(.bool false)]) (au.fA rfl (.bK false) (au.eq .nil))⟩
  replace h:=bu hb48 h
  refine aj.skip ?_
  refine aj.region E.obj rfl ?_
  refine ai.val rfl (aa rfl) rfl ?_
  refine ai.val rfl (aa rfl) rfl ?_
  obtain ⟨z49,hzz49,h⟩:=bind_some h
  refine ai.append (xs:=(x12).map D.str) (ys:=(z46.1).map D.str) (zs:=(z49).map D.str) H27 rfl rfl rfl (i:=1) rfl rfl oh yJ je (fq hzz49) Bt rfl (bJ (enc:=D.str) (fun _=>mZ.symm) _) (bJ (enc:=D.str) (fun _=>mZ.symm) _) Bu rfl (jw hzz49) (fun v50 S51 H52=>?_)
  refine ai.val rfl (ae rfl) rfl ?_
  refine ai.nil ?_
  exact ⟨⟨z49,v50⟩,_,_,S51,.refl _ _,.refl _,(ah.r rfl (ah.r rfl (ah.r rfl (ah.r rfl (ah.r rfl ah.nil))))),H52.sl [1] rfl rfl,h⟩
 replace h:=bu hb16 h
 refine aj.exit ?_
 refine aj.seq ?_
 refine aj.region E.obj rfl ?_
 refine ai.val rfl (aa rfl) rfl ?_
 refine ai.val rfl (ae rfl) rfl ?_
 refine ai.val rfl (ae rfl) rfl ?_
 refine ai.nil ?_
 have hr:=Option.some.inj h
 subst hr
 exact aj.ret ⟨_,rfl,rfl,gF (vs:=[v13,(.d (.bool true))]) (ds:=[(.sl ((x12).map D.str) false),(.bool true)]) (au.grow H11 (i:=0) rfl (au.eq .nil))⟩
set_option maxRecDepth 20000 in
set_option maxHeartbeats 4000000 in
theorem lZ (n:Nat) (a1:Str) (a2:Int) (r:Bool) (h:lH n a1 a2=some r):aV R cfg.P 47 [(.str a1),(.int .i64 a2)] (.d (.bool r)):=by
 unfold lH at h
 refine aV.of_wp E.obj.toObjOk (C:=cfg) Tryd.func47 rfl Cb rfl ?_
 have H0:Has ax ax []:=Has.pure
 refine aj.seq ?_
 refine aj.region E.obj rfl ?_
 refine ai.val rfl (ae rfl) rfl ?_
 refine ai.nil ?_
 refine aj.seq ?_
 refine aj.region E.obj rfl ?_
 refine ai.val rfl (aa rfl) rfl ?_
 refine ai.val rfl (dA rfl (dx nV) rfl) rfl ?_
 refine ai.val rfl (aa rfl) rfl ?_
 refine ai.val rfl (ak rfl rfl fK) rfl ?_
 refine ai.val rfl (aa rfl) rfl ?_
 refine ai.bE 4 13 (.d (.bool ((decide (a2 ≤ ((a1).length:Int))) && (decide (((a1).length:Int) ≤ 64))))) ?_ ?_
 ·
  rcases Bool.eq_false_or_eq_true ((decide (a2 ≤ ((a1).length:Int)))) with hB3 | hB3
  ·
   refine ai.bool hB3 ?_
   refine ai.val rfl (aa rfl) rfl ?_
   refine ai.val rfl (dA rfl (dx nV) rfl) rfl ?_
   refine ai.val rfl (ak rfl rfl iV) rfl ?_
   refine ai.val rfl (av (b:=true) rfl rfl) rfl ?_
   exact ai.nil ⟨_,rfl,(ah.put (ah.push rfl (ah.push rfl (ah.push rfl (ah.put (.refl _) (Less.eq (by rw [hB3])))))) (Less.eq (by rw [hB3]; rw [Bool.true_and])))⟩
  refine ai.bool hB3 ?_
  refine ai.no rfl rfl ?_
  refine ai.no rfl rfl ?_
  refine ai.no rfl rfl ?_
  refine ai.val rfl (av (b:=false) rfl rfl) rfl ?_
  exact ai.nil ⟨_,rfl,(ah.put (ah.push rfl (ah.push rfl (ah.push rfl (ah.put (.refl _) (Less.eq (by rw [hB3])))))) (Less.eq (by rw [hB3]; rw [Bool.false_and])))⟩
 refine ai.val rfl (ae rfl) rfl ?_
 refine ai.nil ?_
 have hr:=Option.some.inj h
 subst hr
 exact aj.ret ⟨_,rfl,rfl,dJ (au.eq .nil)⟩
set_option maxRecDepth 20000 in
set_option maxHeartbeats 4000000 in
theorem uV (n:Nat) (a1:pg) (r:Bool) (h:oL n a1=some r):aV R cfg.P 26 [(nJ a1)] (.d (.bool r)):=by
 unfold oL at h
 refine aV.of_wp E.obj.toObjOk (C:=cfg) Tryd.func26 rfl Cu rfl ?_
 have H0:Has ax ax []:=Has.pure
 refine aj.seq ?_
 refine aj.region E.obj rfl ?_
 refine ai.box H0 rfl rfl rfl (pg.eO _) rfl (fun b2 S3 H4=>?_)
 refine ai.val rfl (ae rfl) rfl ?_
 refine ai.nil ?_
 refine aj.seq ?_
 refine aj.seq ?_
 refine aj.region E.obj rfl ?_
 refine ai.val rfl (az rfl zF BJ rfl) rfl ?_
 refine ai.val rfl (aL H4 (i:=0) rfl rfl (aR BI rfl)) rfl ?_
 refine ai.val rfl (aO rfl o6) rfl ?_
 refine ai.val rfl (ak rfl rfl lK) rfl ?_
 refine ai.val rfl (aa rfl) rfl ?_
 refine ai.bE 5 16 (.d (.bool ((decide (8 < ((a1.Path).length:Int))) || (decide (8 < ((a1.Query).length:Int)))))) ?_ ?_
 ·
  rcases Bool.eq_false_or_eq_true ((decide (8 < ((a1.Path).length:Int)))) with hB5 | hB5
  ·
   refine ai.bool hB5 ?_
   refine ai.no rfl rfl ?_
   refine ai.no rfl rfl ?_
   refine ai.no rfl rfl ?_
   refine ai.no rfl rfl ?_
   refine ai.val rfl (av (b:=true) rfl rfl) rfl ?_
   exact ai.nil ⟨_,rfl,(ah.put (ah.push rfl (ah.push rfl (ah.push rfl (ah.push rfl (ah.put (.refl _) (Less.eq (by rw [hB5]))))))) (Less.eq (by rw [hB5]; rw [Bool.true_or])))⟩
  refine ai.bool hB5 ?_
  refine ai.val rfl (az rfl xR Bj rfl) rfl ?_
  refine ai.val rfl (aL H4 (i:=0) rfl rfl (aR Aw rfl)) rfl ?_
  refine ai.val rfl (aO rfl u7) rfl ?_
  refine ai.val rfl (ak rfl rfl lK) rfl ?_
  refine ai.val rfl (av (b:=false) rfl rfl) rfl ?_
  exact ai.nil ⟨_,rfl,(ah.put (ah.push rfl (ah.push rfl (ah.push rfl (ah.push rfl (ah.put (.refl _) (Less.eq (by rw [hB5]))))))) (Less.eq (by rw [hB5]; rw [Bool.false_or])))⟩
 refine ai.nil ?_
 refine aj.cond rfl (fun hb6=>?_) (fun hb6=>?_)
 ·
  replace h:=bz hb6 h
  refine aj.seq ?_
  refine aj.region E.obj rfl ?_
  refine ai.val rfl (ae rfl) rfl ?_
  refine ai.nil ?_
  have hr:=Option.some.inj h
  subst hr
  exact aj.ret ⟨_,rfl,rfl,dJ (au.eq .nil)⟩
 replace h:=bu hb6 h
 refine aj.skip ?_
 refine aj.seq ?_
 refine aj.seq ?_
 refine aj.region E.obj rfl ?_
 refine ai.val rfl (az rfl zF BJ rfl) rfl ?_
 refine ai.val rfl (aL H4 (i:=0) rfl rfl (aR BI rfl)) rfl ?_
 refine ai.val rfl (aO rfl o6) rfl ?_
 refine ai.val rfl (aa rfl) rfl ?_
 refine ai.nil ?_
 refine aj.block ?_
 refine lC.start (B:=ax) (α:=Int) (fun k a=>fP n a1 k a=some r) (fun a=>[(1,(.ptr b2 0 0)),(18,(.d (.sl ((a1.Path).map D.str) false))),(19,(.d (.int .i64 ((a1.Path).length:Int)))),(20,(.d (.int .i64 a)))]) (fun a=>[.box b2 [(.d (.sl ((a1.Path).map D.str) false)),(.d (.sl ((a1.Query).map aB) false))]]) ?_ ?_ n ⟨0,_,_,S3,.refl _ _,.refl _,(ah.r rfl (ah.r rfl (ah.r rfl (ah.r rfl ah.nil)))),H4.sl [0] rfl rfl,h⟩
 ·
  intro a h; simp [fP] at h
 intro k15 x14 S12 H13 h
 replace h:fP n a1 (k15 + 1) x14=some r:=h
 replace H13:Has ax S12 [.box b2 [(.d (.sl ((a1.Path).map D.str) false)),(.d (.sl ((a1.Query).map aB) false))]]:=H13
 unfold fP at h
 refine aj.seq ?_
 refine aj.region E.obj rfl ?_
 refine ai.val rfl (ak rfl rfl bV) rfl ?_
 refine ai.nil ?_
 refine aj.seq ?_
 refine aj.cond rfl (fun hb16=>?_) (fun hb16=>?_)
 ·
  replace h:=bz hb16 h
  refine aj.skip ?_
  refine aj.seq ?_
  refine aj.block ?_
  refine aj.seq ?_
  refine aj.region E.obj rfl ?_
  obtain ⟨z17,hzz17,h⟩:=bind_some h
  refine ai.val rfl (bQ rfl rfl (df (enc:=D.str) hzz17 je zT (((fun _=>rfl) _).trans mZ.symm))) rfl ?_
  refine ai.val rfl (aZ rfl (eu lN rfl)) rfl ?_
  refine ai.val rfl (ae rfl) rfl ?_
  refine ai.nil ?_
  refine aj.seq ?_
  refine aj.region E.obj rfl ?_
  refine ai.val rfl (aa rfl) rfl ?_
  obtain ⟨z18,hzz18,h⟩:=bind_some h
  refine ai.ret rfl (ay rfl rfl) (lZ E _ _ _ _ hzz18 _ _ (au.eq (au.eq .nil))) rfl ?_
  refine ai.val rfl (bH rfl) rfl ?_
  refine ai.nil ?_
  refine aj.cond rfl (fun hb19=>?_) (fun hb19=>?_)
  ·
   replace h:=bz hb19 h
   refine aj.seq ?_
   refine aj.region E.obj rfl ?_
   refine ai.val rfl (ae rfl) rfl ?_
   refine ai.nil ?_
   have hr:=Option.some.inj h
   subst hr
   exact aj.ret ⟨_,rfl,rfl,dJ (au.eq .nil)⟩
  replace h:=bu hb19 h
  refine aj.skip ?_
  refine aj.region E.obj rfl ?_
  refine ai.val rfl (ak rfl rfl bP) rfl ?_
  refine ai.val rfl (aa rfl) rfl ?_
  refine ai.nil ?_
  exact ⟨(IntKind.wrap .i64 (x14 + 1)),_,_,S12,.refl _ _,.refl _,(ah.r rfl (ah.r rfl (ah.r rfl (ah.r rfl ah.nil)))),H13.sl [0] rfl rfl,h⟩
 replace h:=bu hb16 h
 refine aj.exit ?_
 refine aj.seq ?_
 refine aj.seq ?_
 refine aj.region E.obj rfl ?_
 refine ai.val rfl (az rfl xR Bj rfl) rfl ?_
 refine ai.val rfl (aL H13 (i:=0) rfl rfl (aR Aw rfl)) rfl ?_
 refine ai.val rfl (aO rfl u7) rfl ?_
 refine ai.val rfl (aa rfl) rfl ?_
 refine ai.nil ?_
 refine aj.block ?_
 refine lC.start (B:=ax) (α:=Int) (fun k a=>fO n a1 k a=some r) (fun a=>[(29,(.d (.sl ((a1.Query).map aB) false))),(30,(.d (.int .i64 ((a1.Query).length:Int)))),(31,(.d (.int .i64 a)))]) (fun a=>[]) ?_ ?_ n ⟨0,_,_,S12,.refl _ _,.refl _,(ah.r rfl (ah.r rfl (ah.r rfl ah.nil))),H13.sl [] rfl rfl,h⟩
 ·
  intro a h; simp [fO] at h
 intro k28 x27 S25 H26 h
 replace h:fO n a1 (k28 + 1) x27=some r:=h
 replace H26:Has ax S25 []:=H26
 unfold fO at h
 refine aj.seq ?_
 refine aj.region E.obj rfl ?_
 refine ai.val rfl (ak rfl rfl bV) rfl ?_
 refine ai.nil ?_
 refine aj.seq ?_
 refine aj.cond rfl (fun hb29=>?_) (fun hb29=>?_)
 ·
  replace h:=bz hb29 h
  refine aj.skip ?_
  refine aj.seq ?_
  refine aj.block ?_
  refine aj.seq ?_
  refine aj.region E.obj rfl ?_
  obtain ⟨z30,hzz30,h⟩:=bind_some h
  refine ai.val rfl (bQ rfl rfl (df (enc:=aB) hzz30 qo wF ((aN.len _).trans jJ.symm))) rfl ?_
  refine ai.val rfl (aZ rfl (aN.kH sN jJ)) rfl ?_
  refine ai.alloc H26 rfl A9 mI rfl rfl (fun b31 S32 H33=>?_)
  refine ai.store H33 (i:=0) rfl rfl rfl rfl (aN.eO _) rfl jJ rfl wF rfl rfl rfl (fun S34 H35=>?_)
  refine ai.nil ?_
  refine aj.seq ?_
  refine aj.region E.obj rfl ?_
  refine ai.val rfl (az rfl xE uN rfl) rfl ?_
  refine ai.val rfl (aL H35 (i:=0) rfl rfl (aR lN rfl)) rfl ?_
  obtain ⟨z36,hzz36,h⟩:=bind_some h
  refine ai.ret rfl (ay rfl rfl) (lZ E _ _ _ _ hzz36 _ _ (au.eq (au.eq .nil))) rfl ?_
  refine ai.val rfl (bH rfl) rfl ?_
  refine ai.val rfl (aa rfl) rfl ?_
  obtain ⟨z38,hzz38,h⟩:=bind_some h
  refine ai.bE 5 44 (.d (.bool z38)) ?_ ?_
  ·
   rcases Bool.eq_false_or_eq_true ((!z36)) with hB37 | hB37
   ·
    refine ai.bool hB37 ?_
    refine ai.no rfl rfl ?_
    refine ai.no rfl rfl ?_
    refine ai.no rfl rfl ?_
    refine ai.no rfl rfl ?_
    refine ai.val rfl (av (b:=true) rfl rfl) rfl ?_
    replace hzz38:=bz hB37 hzz38
    cases hzz38
    exact ai.nil ⟨_,rfl,(ah.put (ah.push rfl (ah.push rfl (ah.push rfl (ah.push rfl (ah.put (.refl _) (Less.eq (by rw [hB37]))))))) (.refl _))⟩
   refine ai.bool hB37 ?_
   replace hzz38:=bu hB37 hzz38
   refine ai.val rfl (az rfl xA uN rfl) rfl ?_
   refine ai.val rfl (aL H35 (i:=0) rfl rfl (aR lN rfl)) rfl ?_
   obtain ⟨z39,hzz39,hzz38⟩:=bind_some hzz38
   refine ai.ret rfl (ay rfl rfl) (lZ E _ _ _ _ hzz39 _ _ (au.eq (au.eq .nil))) rfl ?_
   refine ai.val rfl (bH rfl) rfl ?_
   refine ai.val rfl (av (b:=false) rfl rfl) rfl ?_
   cases hzz38
   exact ai.nil ⟨_,rfl,(ah.put (ah.push rfl (ah.push rfl (ah.push rfl (ah.push rfl (ah.put (.refl _) (Less.eq (by rw [hB37]))))))) (.refl _))⟩
  refine ai.nil ?_
  refine aj.cond rfl (fun hb40=>?_) (fun hb40=>?_)
  ·
   replace h:=bz hb40 h
   refine aj.seq ?_
   refine aj.region E.obj rfl ?_
   refine ai.val rfl (ae rfl) rfl ?_
   refine ai.nil ?_
   have hr:=Option.some.inj h
   subst hr
   exact aj.ret ⟨_,rfl,rfl,dJ (au.eq .nil)⟩
  replace h:=bu hb40 h
  refine aj.skip ?_
  refine aj.region E.obj rfl ?_
  refine ai.val rfl (ak rfl rfl bP) rfl ?_
  refine ai.val rfl (aa rfl) rfl ?_
  refine ai.nil ?_
  exact ⟨(IntKind.wrap .i64 (x27 + 1)),_,_,S34,.refl _ _,.refl _,(ah.r rfl (ah.r rfl (ah.r rfl ah.nil))),H35.sl [] rfl rfl,h⟩
 replace h:=bu hb29 h
 refine aj.exit ?_
 refine aj.seq ?_
 refine aj.region E.obj rfl ?_
 refine ai.val rfl (ae rfl) rfl ?_
 refine ai.nil ?_
 have hr:=Option.some.inj h
 subst hr
 exact aj.ret ⟨_,rfl,rfl,dJ (au.eq .nil)⟩
set_option maxRecDepth 20000 in
set_option maxHeartbeats 4000000 in
theorem pI (n:Nat) (a1:(List aN)) (a2:(List aN)) (r:Bool) (h:jZ n a1 a2=some r):aV R cfg.P 27 [(.sl ((a1).map aB) false),(.sl ((a2).map aB) false)] (.d (.bool r)):=by
 unfold jZ at h
 refine aV.of_wp E.obj.toObjOk (C:=cfg) Tryd.func27 rfl CY rfl ?_
 have H0:Has ax ax []:=Has.pure
 refine aj.seq ?_
 refine aj.region E.obj rfl ?_
 refine ai.val rfl (ae rfl) rfl ?_
 refine ai.nil ?_
 refine aj.seq ?_
 refine aj.seq ?_
 refine aj.region E.obj rfl ?_
 refine ai.val rfl (aa rfl) rfl ?_
 refine ai.val rfl (aO rfl u7) rfl ?_
 refine ai.val rfl (aa rfl) rfl ?_
 refine ai.val rfl (aO rfl u7) rfl ?_
 refine ai.val rfl (ak rfl rfl jB) rfl ?_
 refine ai.nil ?_
 refine aj.cond rfl (fun hb3=>?_) (fun hb3=>?_)
 ·
  replace h:=bz hb3 h
  refine aj.seq ?_
  refine aj.region E.obj rfl ?_
  refine ai.val rfl (ae rfl) rfl ?_
  refine ai.nil ?_
  have hr:=Option.some.inj h
  subst hr
  exact aj.ret ⟨_,rfl,rfl,dJ (au.eq .nil)⟩
 replace h:=bu hb3 h
 refine aj.skip ?_
 refine aj.seq ?_
 refine aj.seq ?_
 refine aj.region E.obj rfl ?_
 refine ai.val rfl (aa rfl) rfl ?_
 refine ai.val rfl (aO rfl u7) rfl ?_
 refine ai.val rfl (aa rfl) rfl ?_
 refine ai.nil ?_
 refine aj.block ?_
 refine lC.start (B:=ax) (α:=Int) (fun k a=>dG n a1 a2 k a=some r) (fun a=>[(1,(.d (.sl ((a2).map aB) false))),(14,(.d (.sl ((a1).map aB) false))),(15,(.d (.int .i64 ((a1).length:Int)))),(16,(.d (.int .i64 a)))]) (fun a=>[]) ?_ ?_ n ⟨0,_,_,ax,.refl _ _,.refl _,(ah.r rfl (ah.r rfl (ah.r rfl (ah.r rfl ah.nil)))),H0.sl [] rfl rfl,h⟩
 ·
  intro a h; simp [dG] at h
 intro k12 x11 S9 H10 h
 replace h:dG n a1 a2 (k12 + 1) x11=some r:=h
 replace H10:Has ax S9 []:=H10
 unfold dG at h
 refine aj.seq ?_
 refine aj.region E.obj rfl ?_
 refine ai.val rfl (ak rfl rfl bV) rfl ?_
 refine ai.nil ?_
 refine aj.seq ?_
 refine aj.cond rfl (fun hb13=>?_) (fun hb13=>?_)
 ·
  replace h:=bz hb13 h
  refine aj.skip ?_
  refine aj.seq ?_
  refine aj.block ?_
  refine aj.seq ?_
  refine aj.region E.obj rfl ?_
  obtain ⟨z14,hzz14,h⟩:=bind_some h
  refine ai.val rfl (bQ rfl rfl (df (enc:=aB) hzz14 qo wF ((aN.len _).trans jJ.symm))) rfl ?_
  refine ai.val rfl (aZ rfl (aN.kH sN jJ)) rfl ?_
  refine ai.alloc H10 rfl A9 mI rfl rfl (fun b15 S16 H17=>?_)
  refine ai.store H17 (i:=0) rfl rfl rfl rfl (aN.eO _) rfl jJ rfl wF rfl rfl rfl (fun S18 H19=>?_)
  refine ai.nil ?_
  refine aj.seq ?_
  refine aj.region E.obj rfl ?_
  refine ai.val rfl (aa rfl) rfl ?_
  refine ai.val rfl (az rfl xE uN rfl) rfl ?_
  refine ai.val rfl (aL H19 (i:=0) rfl rfl (aR lN rfl)) rfl ?_
  obtain ⟨z20,hzz20,h⟩:=bind_some h
  refine ai.ret rfl (ay rfl rfl) (kr E _ _ _ _ hzz20 _ _ (au.eq (au.eq .nil))) rfl ?_
  refine ai.val rfl (aa rfl) rfl ?_
  refine ai.val rfl (aD rfl rfl) rfl ?_
  refine ai.val rfl (aD rfl rfl) rfl ?_
  refine ai.val rfl (ae rfl) rfl ?_
  refine ai.val rfl (ae rfl) rfl ?_
  refine ai.nil ?_
  refine aj.seq ?_
  refine aj.region E.obj rfl ?_
  refine ai.val rfl (aa rfl) rfl ?_
  refine ai.val rfl (bH rfl) rfl ?_
  refine ai.val rfl (aa rfl) rfl ?_
  refine ai.bE 5 34 (.d (.bool ((!z20.2) || (!(z20.1 == z14.Value))))) ?_ ?_
  ·
   rcases Bool.eq_false_or_eq_true ((!z20.2)) with hB21 | hB21
   ·
    refine ai.bool hB21 ?_
    refine ai.no rfl rfl ?_
    refine ai.no rfl rfl ?_
    refine ai.no rfl rfl ?_
    refine ai.no rfl rfl ?_
    refine ai.val rfl (av (b:=true) rfl rfl) rfl ?_
    exact ai.nil ⟨_,rfl,(ah.put (ah.push rfl (ah.push rfl (ah.push rfl (ah.push rfl (ah.put (.refl _) (Less.eq (by rw [hB21]))))))) (Less.eq (by rw [hB21]; rw [Bool.true_or])))⟩
   refine ai.bool hB21 ?_
   refine ai.val rfl (aa rfl) rfl ?_
   refine ai.val rfl (az rfl xA uN rfl) rfl ?_
   refine ai.val rfl (aL H19 (i:=0) rfl rfl (aR lN rfl)) rfl ?_
   refine ai.val rfl (ak rfl rfl iG) rfl ?_
   refine ai.val rfl (av (b:=false) rfl rfl) rfl ?_
   exact ai.nil ⟨_,rfl,(ah.put (ah.push rfl (ah.push rfl (ah.push rfl (ah.push rfl (ah.put (.refl _) (Less.eq (by rw [hB21]))))))) (Less.eq (by rw [hB21]; rw [Bool.false_or])))⟩
  refine ai.nil ?_
  refine aj.cond rfl (fun hb22=>?_) (fun hb22=>?_)
  ·
   replace h:=bz hb22 h
   refine aj.seq ?_
   refine aj.region E.obj rfl ?_
   refine ai.val rfl (ae rfl) rfl ?_
   refine ai.nil ?_
   have hr:=Option.some.inj h
   subst hr
   exact aj.ret ⟨_,rfl,rfl,dJ (au.eq .nil)⟩
  replace h:=bu hb22 h
  refine aj.skip ?_
  refine aj.region E.obj rfl ?_
  refine ai.val rfl (ak rfl rfl bP) rfl ?_
  refine ai.val rfl (aa rfl) rfl ?_
  refine ai.nil ?_
  exact ⟨(IntKind.wrap .i64 (x11 + 1)),_,_,S18,.refl _ _,.refl _,(ah.r rfl (ah.r rfl (ah.r rfl (ah.r rfl ah.nil)))),H19.sl [] rfl rfl,h⟩
 replace h:=bu hb13 h
 refine aj.exit ?_
 refine aj.seq ?_
 refine aj.region E.obj rfl ?_
 refine ai.val rfl (ae rfl) rfl ?_
 refine ai.nil ?_
 have hr:=Option.some.inj h
 subst hr
 exact aj.ret ⟨_,rfl,rfl,dJ (au.eq .nil)⟩
set_option maxRecDepth 20000 in
set_option maxHeartbeats 4000000 in
theorem kg (n:Nat) (a1:(List Seg)) (a2:(List aN)) (r:((List Str) × Bool)) (h:iO n a1 a2=some r):aV R cfg.P 10 [(.sl ((a1).map aF) false),(.sl ((a2).map aB) false)] (.tup [.d (.sl ((r.1).map D.str) false),.d (.bool r.2)]):=by
 unfold iO at h
 refine aV.of_wp E.obj.toObjOk (C:=cfg) Tryd.func10 rfl C9 rfl ?_
 have H0:Has ax ax []:=Has.pure
 refine aj.seq ?_
 refine aj.region E.obj rfl ?_
 refine ai.val rfl (ae rfl) rfl ?_
 refine ai.val rfl (ae rfl) rfl ?_
 refine ai.nil ?_
 refine aj.seq ?_
 refine aj.seq ?_
 refine aj.region E.obj rfl ?_
 refine ai.val rfl (aa rfl) rfl ?_
 obtain ⟨z3,hzz3,h⟩:=bind_some h
 refine ai.ret rfl (ay rfl rfl) (dO E _ _ _ hzz3 _ _ (au.eq .nil)) rfl ?_
 refine ai.val rfl (bH rfl) rfl ?_
 refine ai.nil ?_
 refine aj.cond rfl (fun hb4=>?_) (fun hb4=>?_)
 ·
  replace h:=bz hb4 h
  refine aj.seq ?_
  refine aj.region E.obj rfl ?_
  refine ai.val rfl (ae rfl) rfl ?_
  refine ai.val rfl (ae rfl) rfl ?_
  refine ai.nil ?_
  have hr:=Option.some.inj h
  subst hr
  exact aj.ret ⟨_,rfl,rfl,gF (vs:=[(.d .bK),(.d (.bool false))]) (ds:=[(.sl (([]).map D.str) false),(.bool false)]) (au.fA rfl (.bK false) (au.eq .nil))⟩
 replace h:=bu hb4 h
 refine aj.skip ?_
 refine aj.seq ?_
 refine aj.region E.obj rfl ?_
 refine ai.val rfl (aa rfl) rfl ?_
 refine ai.val rfl (aa rfl) rfl ?_
 obtain ⟨z5,hzz5,h⟩:=bind_some h
 refine ai.ret rfl (ay rfl rfl) (qg E _ _ _ _ hzz5 _ _ (au.eq (au.eq .nil))) rfl ?_
 refine ai.val rfl (aa rfl) rfl ?_
 refine ai.val rfl (aD rfl rfl) rfl ?_
 refine ai.val rfl (aD rfl rfl) rfl ?_
 refine ai.val rfl (ae rfl) rfl ?_
 refine ai.val rfl (ae rfl) rfl ?_
 refine ai.nil ?_
 refine aj.seq ?_
 refine aj.seq ?_
 refine aj.region E.obj rfl ?_
 refine ai.val rfl (aa rfl) rfl ?_
 refine ai.val rfl (bH rfl) rfl ?_
 refine ai.val rfl (aa rfl) rfl ?_
 obtain ⟨z7,hzz7,h⟩:=bind_some h
 refine ai.bE 5 25 (.d (.bool z7)) ?_ ?_
 ·
  rcases Bool.eq_false_or_eq_true ((!z5.2)) with hB6 | hB6
  ·
   refine ai.bool hB6 ?_
   refine ai.no rfl rfl ?_
   refine ai.no rfl rfl ?_
   refine ai.no rfl rfl ?_
   refine ai.no rfl rfl ?_
   refine ai.val rfl (av (b:=true) rfl rfl) rfl ?_
   replace hzz7:=bz hB6 hzz7
   cases hzz7
   exact ai.nil ⟨_,rfl,(ah.put (ah.push rfl (ah.push rfl (ah.push rfl (ah.push rfl (ah.put (.refl _) (Less.eq (by rw [hB6]))))))) (.refl _))⟩
  refine ai.bool hB6 ?_
  replace hzz7:=bu hB6 hzz7
  refine ai.val rfl (aa rfl) rfl ?_
  refine ai.val rfl (bU (cs:=[(.d (.sl ((z5.1).map D.str) false)),(.d .bK)]) BM rfl (lY) (eG rfl rfl rfl rfl rfl)) rfl ?_
  refine ai.less (Less.agg' (d:=nJ (pg.mk z5.1 [])) (aQ.eq rfl (aQ.fA rfl (.bK false) rfl rfl .nil)) ((pg.eq _).trans rfl)) ?_
  obtain ⟨z8,hzz8,hzz7⟩:=bind_some hzz7
  refine ai.ret rfl (ay rfl rfl) (uV E _ _ _ hzz8 _ _ (au.eq .nil)) rfl ?_
  refine ai.val rfl (bH rfl) rfl ?_
  refine ai.val rfl (av (b:=false) rfl rfl) rfl ?_
  cases hzz7
  exact ai.nil ⟨_,rfl,(ah.put (ah.push rfl (ah.push rfl (ah.push rfl (ah.push rfl (ah.put (.refl _) (Less.eq (by rw [hB6]))))))) (.refl _))⟩
 refine ai.nil ?_
 refine aj.cond rfl (fun hb9=>?_) (fun hb9=>?_)
 ·
  replace h:=bz hb9 h
  refine aj.seq ?_
  refine aj.region E.obj rfl ?_
  refine ai.val rfl (ae rfl) rfl ?_
  refine ai.val rfl (ae rfl) rfl ?_
  refine ai.nil ?_
  have hr:=Option.some.inj h
  subst hr
  exact aj.ret ⟨_,rfl,rfl,gF (vs:=[(.d .bK),(.d (.bool false))]) (ds:=[(.sl (([]).map D.str) false),(.bool false)]) (au.fA rfl (.bK false) (au.eq .nil))⟩
 replace h:=bu hb9 h
 refine aj.skip ?_
 refine aj.seq ?_
 refine aj.region E.obj rfl ?_
 refine ai.val rfl (aa rfl) rfl ?_
 refine ai.val rfl (aa rfl) rfl ?_
 obtain ⟨z10,hzz10,h⟩:=bind_some h
 refine ai.ret rfl (ay rfl rfl) (kG E _ _ _ _ hzz10 _ _ (au.eq (au.eq .nil))) rfl ?_
 refine ai.val rfl (aa rfl) rfl ?_
 refine ai.val rfl (aD rfl rfl) rfl ?_
 refine ai.val rfl (aD rfl rfl) rfl ?_
 refine ai.val rfl (ae rfl) rfl ?_
 refine ai.val rfl (ae rfl) rfl ?_
 refine ai.nil ?_
 refine aj.seq ?_
 refine aj.seq ?_
 refine aj.region E.obj rfl ?_
 refine ai.val rfl (aa rfl) rfl ?_
 refine ai.val rfl (bH rfl) rfl ?_
 refine ai.val rfl (aa rfl) rfl ?_
 obtain ⟨z12,hzz12,h⟩:=bind_some h
 refine ai.bE 5 39 (.d (.bool z12)) ?_ ?_
 ·
  rcases Bool.eq_false_or_eq_true ((!z10.2)) with hB11 | hB11
  ·
   refine ai.bool hB11 ?_
   refine ai.no rfl rfl ?_
   refine ai.no rfl rfl ?_
   refine ai.no rfl rfl ?_
   refine ai.no rfl rfl ?_
   refine ai.val rfl (av (b:=true) rfl rfl) rfl ?_
   replace hzz12:=bz hB11 hzz12
   cases hzz12
   exact ai.nil ⟨_,rfl,(ah.put (ah.push rfl (ah.push rfl (ah.push rfl (ah.push rfl (ah.put (.refl _) (Less.eq (by rw [hB11]))))))) (.refl _))⟩
  refine ai.bool hB11 ?_
  replace hzz12:=bu hB11 hzz12
  refine ai.val rfl (aa rfl) rfl ?_
  refine ai.val rfl (aa rfl) rfl ?_
  obtain ⟨z13,hzz13,hzz12⟩:=bind_some hzz12
  refine ai.ret rfl (ay rfl rfl) (pI E _ _ _ _ hzz13 _ _ (au.eq (au.eq .nil))) rfl ?_
  refine ai.val rfl (bH rfl) rfl ?_
  refine ai.val rfl (av (b:=false) rfl rfl) rfl ?_
  cases hzz12
  exact ai.nil ⟨_,rfl,(ah.put (ah.push rfl (ah.push rfl (ah.push rfl (ah.push rfl (ah.put (.refl _) (Less.eq (by rw [hB11]))))))) (.refl _))⟩
 refine ai.nil ?_
 refine aj.cond rfl (fun hb14=>?_) (fun hb14=>?_)
 ·
  replace h:=bz hb14 h
  refine aj.seq ?_
  refine aj.region E.obj rfl ?_
  refine ai.val rfl (ae rfl) rfl ?_
  refine ai.val rfl (ae rfl) rfl ?_
  refine ai.nil ?_
  have hr:=Option.some.inj h
  subst hr
  exact aj.ret ⟨_,rfl,rfl,gF (vs:=[(.d .bK),(.d (.bool false))]) (ds:=[(.sl (([]).map D.str) false),(.bool false)]) (au.fA rfl (.bK false) (au.eq .nil))⟩
 replace h:=bu hb14 h
 refine aj.skip ?_
 refine aj.seq ?_
 refine aj.region E.obj rfl ?_
 refine ai.val rfl (aa rfl) rfl ?_
 refine ai.val rfl (ae rfl) rfl ?_
 refine ai.val rfl (ae rfl) rfl ?_
 refine ai.nil ?_
 have hr:=Option.some.inj h
 subst hr
 exact aj.ret ⟨_,rfl,rfl,gF (vs:=[(.d (.sl ((z5.1).map D.str) false)),(.d (.bool true))]) (ds:=[(.sl ((z5.1).map D.str) false),(.bool true)]) (au.eq (au.eq .nil))⟩
set_option maxRecDepth 20000 in
set_option maxHeartbeats 4000000 in
theorem jD (n:Nat) (a1:(List Str)) (a2:(List Str)) (r:Bool) (h:eZ n a1 a2=some r):aV R cfg.P 12 [(.sl ((a1).map D.str) false),(.sl ((a2).map D.str) false)] (.d (.bool r)):=by
 unfold eZ at h
 refine aV.of_wp E.obj.toObjOk (C:=cfg) Tryd.func12 rfl CO rfl ?_
 have H0:Has ax ax []:=Has.pure
 refine aj.seq ?_
 refine aj.region E.obj rfl ?_
 refine ai.val rfl (ae rfl) rfl ?_
 refine ai.nil ?_
 refine aj.seq ?_
 refine aj.seq ?_
 refine aj.region E.obj rfl ?_
 refine ai.val rfl (aa rfl) rfl ?_
 refine ai.val rfl (aO rfl o6) rfl ?_
 refine ai.val rfl (aa rfl) rfl ?_
 refine ai.val rfl (aO rfl o6) rfl ?_
 refine ai.val rfl (ak rfl rfl jB) rfl ?_
 refine ai.nil ?_
 refine aj.cond rfl (fun hb3=>?_) (fun hb3=>?_)
 ·
  replace h:=bz hb3 h
  refine aj.seq ?_
  refine aj.region E.obj rfl ?_
  refine ai.val rfl (ae rfl) rfl ?_
  refine ai.nil ?_
  have hr:=Option.some.inj h
  subst hr
  exact aj.ret ⟨_,rfl,rfl,dJ (au.eq .nil)⟩
 replace h:=bu hb3 h
 refine aj.skip ?_
 refine aj.seq ?_
 refine aj.seq ?_
 refine aj.region E.obj rfl ?_
 refine ai.val rfl (ae rfl) rfl ?_
 refine ai.nil ?_
 refine aj.block ?_
 refine lC.start (B:=ax) (α:=Int) (fun k a=>bG a1 a2 k a=some r) (fun a=>[(0,(.d (.sl ((a1).map D.str) false))),(1,(.d (.sl ((a2).map D.str) false))),(5,(.d (.int .i64 a)))]) (fun a=>[]) ?_ ?_ n ⟨0,_,_,ax,.refl _ _,.refl _,(ah.r rfl (ah.r rfl (ah.r rfl ah.nil))),H0.sl [] rfl rfl,h⟩
 ·
  intro a h; simp [bG] at h
 intro k12 x11 S9 H10 h
 replace h:bG a1 a2 (k12 + 1) x11=some r:=h
 replace H10:Has ax S9 []:=H10
 unfold bG at h
 refine aj.seq ?_
 refine aj.seq ?_
 refine aj.region E.obj rfl ?_
 refine ai.val rfl (aa rfl) rfl ?_
 refine ai.val rfl (aa rfl) rfl ?_
 refine ai.val rfl (aO rfl o6) rfl ?_
 refine ai.val rfl (ak rfl rfl bV) rfl ?_
 refine ai.nil ?_
 refine aj.cond rfl (fun hb13=>?_) (fun hb13=>?_)
 ·
  replace h:=bz hb13 h
  refine aj.skip ?_
  refine aj.seq ?_
  refine aj.block ?_
  refine aj.seq ?_
  obtain ⟨z14,hzz14,h⟩:=bind_some h
  obtain ⟨z15,hzz15,h⟩:=bind_some h
  refine aj.qV E.obj wU CX [(0,none),(1,none),(5,none),(25,some 8)] (by kernel_rfl) [] (by decide) [some (.d (.sl ((a1).map D.str) false)),some (.d (.int .i64 x11)),some (.eptr (.str z14) 0),some (.d (.str z14)),some (.d (.sl ((a2).map D.str) false)),some (.d (.int .i64 x11)),some (.eptr (.str z15) 0),some (.d (.str z15)),some (.d (.bool (!(z14 == z15))))] ?_
  refine ⟨[0,1,2,3,4,5,6,7,8],by kernel_rfl,?_,_,rfl,?_⟩
  ·
   refine .v rfl rfl rfl rfl (aa rfl) ?_
   refine .v rfl rfl rfl rfl (aa rfl) ?_
   refine .v rfl rfl rfl rfl (bQ rfl rfl (df (enc:=D.str) hzz14 je zT (((fun _=>rfl) _).trans mZ.symm))) ?_
   refine .v rfl rfl rfl rfl (aZ rfl (eu lN rfl)) ?_
   refine .v rfl rfl rfl rfl (aa rfl) ?_
   refine .v rfl rfl rfl rfl (aa rfl) ?_
   refine .v rfl rfl rfl rfl (bQ rfl rfl (df (enc:=D.str) hzz15 je zT (((fun _=>rfl) _).trans mZ.symm))) ?_
   refine .v rfl rfl rfl rfl (aZ rfl (eu lN rfl)) ?_
   refine .v rfl rfl rfl rfl (ak rfl rfl iG) ?_
   exact .nil
  refine aj.cond rfl (fun hb16=>?_) (fun hb16=>?_)
  ·
   replace h:=bz hb16 h
   refine aj.seq ?_
   refine aj.region E.obj rfl ?_
   refine ai.val rfl (ae rfl) rfl ?_
   refine ai.nil ?_
   have hr:=Option.some.inj h
   subst hr
   exact aj.ret ⟨_,rfl,rfl,dJ (au.eq .nil)⟩
  replace h:=bu hb16 h
  refine aj.skip ?_
  refine aj.region E.obj rfl ?_
  refine ai.val rfl (aa rfl) rfl ?_
  refine ai.val rfl (ak rfl rfl bP) rfl ?_
  refine ai.val rfl (ae rfl) rfl ?_
  refine ai.nil ?_
  exact ⟨(IntKind.wrap .i64 (x11 + 1)),_,_,S9,.refl _ _,.refl _,(ah.r rfl (ah.r rfl (ah.r rfl ah.nil))),H10.sl [] rfl rfl,h⟩
 replace h:=bu hb13 h
 refine aj.exit ?_
 refine aj.seq ?_
 refine aj.region E.obj rfl ?_
 refine ai.val rfl (ae rfl) rfl ?_
 refine ai.nil ?_
 have hr:=Option.some.inj h
 subst hr
 exact aj.ret ⟨_,rfl,rfl,dJ (au.eq .nil)⟩
set_option maxRecDepth 20000 in
set_option maxHeartbeats 4000000 in
theorem iW (n:Nat) (a1:(List aN)) (a2:(List aN)) (r:Bool) (h:dY n a1 a2=some r):aV R cfg.P 15 [(.sl ((a1).map aB) false),(.sl ((a2).map aB) false)] (.d (.bool r)):=by
 unfold dY at h
 refine aV.of_wp E.obj.toObjOk (C:=cfg) Tryd.func15 rfl CR rfl ?_
 have H0:Has ax ax []:=Has.pure
 refine aj.seq ?_
 refine aj.region E.obj rfl ?_
 refine ai.val rfl (ae rfl) rfl ?_
 refine ai.nil ?_
 refine aj.seq ?_
 refine aj.seq ?_
 refine aj.region E.obj rfl ?_
 refine ai.val rfl (aa rfl) rfl ?_
 refine ai.val rfl (aO rfl u7) rfl ?_
 refine ai.val rfl (aa rfl) rfl ?_
 refine ai.val rfl (aO rfl u7) rfl ?_
 refine ai.val rfl (ak rfl rfl jB) rfl ?_
 refine ai.nil ?_
 refine aj.cond rfl (fun hb3=>?_) (fun hb3=>?_)
 ·
  replace h:=bz hb3 h
  refine aj.seq ?_
  refine aj.region E.obj rfl ?_
  refine ai.val rfl (ae rfl) rfl ?_
  refine ai.nil ?_
  have hr:=Option.some.inj h
  subst hr
  exact aj.ret ⟨_,rfl,rfl,dJ (au.eq .nil)⟩
 replace h:=bu hb3 h
 refine aj.skip ?_
 refine aj.seq ?_
 refine aj.seq ?_
 refine aj.region E.obj rfl ?_
 refine ai.val rfl (ae rfl) rfl ?_
 refine ai.nil ?_
 refine aj.block ?_
 refine lC.start (B:=ax) (α:=Int) (fun k a=>bB a1 a2 k a=some r) (fun a=>[(0,(.d (.sl ((a1).map aB) false))),(1,(.d (.sl ((a2).map aB) false))),(5,(.d (.int .i64 a)))]) (fun a=>[]) ?_ ?_ n ⟨0,_,_,ax,.refl _ _,.refl _,(ah.r rfl (ah.r rfl (ah.r rfl ah.nil))),H0.sl [] rfl rfl,h⟩
 ·
  intro a h; simp [bB] at h
 intro k12 x11 S9 H10 h
 replace h:bB a1 a2 (k12 + 1) x11=some r:=h
 replace H10:Has ax S9 []:=H10
 unfold bB at h
 refine aj.seq ?_
 refine aj.seq ?_
 refine aj.region E.obj rfl ?_
 refine ai.val rfl (aa rfl) rfl ?_
 refine ai.val rfl (aa rfl) rfl ?_
 refine ai.val rfl (aO rfl u7) rfl ?_
 refine ai.val rfl (ak rfl rfl bV) rfl ?_
 refine ai.nil ?_
 refine aj.cond rfl (fun hb13=>?_) (fun hb13=>?_)
 ·
  replace h:=bz hb13 h
  refine aj.skip ?_
  refine aj.seq ?_
  refine aj.block ?_
  refine aj.seq ?_
  obtain ⟨z14,hzz14,h⟩:=bind_some h
  obtain ⟨z15,hzz15,h⟩:=bind_some h
  refine aj.qV E.obj wU CX [(0,none),(1,none),(5,none),(25,some 8)] (by kernel_rfl) [] (by decide) [some (.d (.sl ((a1).map aB) false)),some (.d (.int .i64 x11)),some (.eptr (aB z14) 0),some (.d (aB z14)),some (.d (.sl ((a2).map aB) false)),some (.d (.int .i64 x11)),some (.eptr (aB z15) 0),some (.d (aB z15)),some (.d (.bool (!(aN.beq z14 z15))))] ?_
  refine ⟨[0,1,2,3,4,5,6,7,8],by kernel_rfl,?_,_,rfl,?_⟩
  ·
   refine .v rfl rfl rfl rfl (aa rfl) ?_
   refine .v rfl rfl rfl rfl (aa rfl) ?_
   refine .v rfl rfl rfl rfl (bQ rfl rfl (df (enc:=aB) hzz14 qo wF ((aN.len _).trans jJ.symm))) ?_
   refine .v rfl rfl rfl rfl (aZ rfl (aN.kH sN jJ)) ?_
   refine .v rfl rfl rfl rfl (aa rfl) ?_
   refine .v rfl rfl rfl rfl (aa rfl) ?_
   refine .v rfl rfl rfl rfl (bQ rfl rfl (df (enc:=aB) hzz15 qo wF ((aN.len _).trans jJ.symm))) ?_
   refine .v rfl rfl rfl rfl (aZ rfl (aN.kH sN jJ)) ?_
   refine .v rfl rfl rfl rfl (ak rfl rfl (rF (aN.eq _) (aN.eq _) (Bz _ _))) ?_
   exact .nil
  refine aj.cond rfl (fun hb16=>?_) (fun hb16=>?_)
  ·
   replace h:=bz hb16 h
   refine aj.seq ?_
   refine aj.region E.obj rfl ?_
   refine ai.val rfl (ae rfl) rfl ?_
   refine ai.nil ?_
   have hr:=Option.some.inj h
   subst hr
   exact aj.ret ⟨_,rfl,rfl,dJ (au.eq .nil)⟩
  replace h:=bu hb16 h
  refine aj.skip ?_
  refine aj.region E.obj rfl ?_
  refine ai.val rfl (aa rfl) rfl ?_
  refine ai.val rfl (ak rfl rfl bP) rfl ?_
  refine ai.val rfl (ae rfl) rfl ?_
  refine ai.nil ?_
  exact ⟨(IntKind.wrap .i64 (x11 + 1)),_,_,S9,.refl _ _,.refl _,(ah.r rfl (ah.r rfl (ah.r rfl ah.nil))),H10.sl [] rfl rfl,h⟩
 replace h:=bu hb13 h
 refine aj.exit ?_
 refine aj.seq ?_
 refine aj.region E.obj rfl ?_
 refine ai.val rfl (ae rfl) rfl ?_
 refine ai.nil ?_
 have hr:=Option.some.inj h
 subst hr
 exact aj.ret ⟨_,rfl,rfl,dJ (au.eq .nil)⟩
set_option maxRecDepth 20000 in
set_option maxHeartbeats 4000000 in
theorem ik (n:Nat) (a1:Str) (a2:Str) (r:Bool) (h:bW n a1 a2=some r):aV R cfg.P 67 [(.str a1),(.str a2)] (.d (.bool r)):=by
 unfold bW at h
 refine aV.of_wp E.obj.toObjOk (C:=cfg) Tryd.func67 rfl Co rfl ?_
 have H0:Has ax ax []:=Has.pure
 refine aj.seq ?_
 refine aj.region E.obj rfl ?_
 refine ai.val rfl (ae rfl) rfl ?_
 refine ai.nil ?_
 refine aj.seq ?_
 refine aj.region E.obj rfl ?_
 refine ai.val rfl (aa rfl) rfl ?_
 refine ai.val rfl (dA rfl (dx nV) rfl) rfl ?_
 refine ai.val rfl (aa rfl) rfl ?_
 refine ai.val rfl (dA rfl (dx nV) rfl) rfl ?_
 refine ai.val rfl (ak rfl rfl fK) rfl ?_
 refine ai.val rfl (aa rfl) rfl ?_
 obtain ⟨z4,hzz4,h⟩:=bind_some h
 refine ai.bE 7 17 (.d (.bool z4)) ?_ ?_
 ·
  rcases Bool.eq_false_or_eq_true ((decide (((a2).length:Int) ≤ ((a1).length:Int)))) with hB3 | hB3
  ·
   refine ai.bool hB3 ?_
   replace hzz4:=bz hB3 hzz4
   refine ai.val rfl (aa rfl) rfl ?_
   refine ai.val rfl (aa rfl) rfl ?_
   refine ai.val rfl (dA rfl (dx nV) rfl) rfl ?_
   obtain ⟨z5,hzz5,hzz4⟩:=bind_some hzz4
   refine ai.val rfl (lS rfl rfl nV hzz5) rfl ?_
   refine ai.val rfl (aa rfl) rfl ?_
   refine ai.val rfl (ak rfl rfl gJ) rfl ?_
   refine ai.val rfl (av (b:=true) rfl rfl) rfl ?_
   cases hzz4
   exact ai.nil ⟨_,rfl,(ah.put (ah.push rfl (ah.push rfl (ah.push rfl (ah.push rfl (ah.push rfl (ah.push rfl (ah.put (.refl _) (Less.eq (by rw [hB3]))))))))) (.refl _))⟩
  refine ai.bool hB3 ?_
  refine ai.no rfl rfl ?_
  refine ai.no rfl rfl ?_
  refine ai.no rfl rfl ?_
  refine ai.no rfl rfl ?_
  refine ai.no rfl rfl ?_
  refine ai.no rfl rfl ?_
  refine ai.val rfl (av (b:=false) rfl rfl) rfl ?_
  replace hzz4:=bu hB3 hzz4
  cases hzz4
  exact ai.nil ⟨_,rfl,(ah.put (ah.push rfl (ah.push rfl (ah.push rfl (ah.push rfl (ah.push rfl (ah.push rfl (ah.put (.refl _) (Less.eq (by rw [hB3]))))))))) (.refl _))⟩
 refine ai.val rfl (ae rfl) rfl ?_
 refine ai.nil ?_
 have hr:=Option.some.inj h
 subst hr
 exact aj.ret ⟨_,rfl,rfl,dJ (au.eq .nil)⟩
set_option maxRecDepth 20000 in
set_option maxHeartbeats 4000000 in
theorem ig (n:Nat) (a1:Str) (a2:Str) (r:Bool) (h:bZ n a1 a2=some r):aV R cfg.P 82 [(.str a1),(.str a2)] (.d (.bool r)):=by
 unfold bZ at h
 refine aV.of_wp E.obj.toObjOk (C:=cfg) Tryd.func82 rfl Ca rfl ?_
 have H0:Has ax ax []:=Has.pure
 refine aj.seq ?_
 refine aj.region E.obj rfl ?_
 refine ai.val rfl (ae rfl) rfl ?_
 refine ai.nil ?_
 refine aj.seq ?_
 refine aj.region E.obj rfl ?_
 refine ai.val rfl (aa rfl) rfl ?_
 refine ai.val rfl (dA rfl (dx nV) rfl) rfl ?_
 refine ai.val rfl (aa rfl) rfl ?_
 refine ai.val rfl (dA rfl (dx nV) rfl) rfl ?_
 refine ai.val rfl (ak rfl rfl fK) rfl ?_
 refine ai.val rfl (aa rfl) rfl ?_
 obtain ⟨z4,hzz4,h⟩:=bind_some h
 refine ai.bE 10 20 (.d (.bool z4)) ?_ ?_
 ·
  rcases Bool.eq_false_or_eq_true ((decide (((a2).length:Int) ≤ ((a1).length:Int)))) with hB3 | hB3
  ·
   refine ai.bool hB3 ?_
   replace hzz4:=bz hB3 hzz4
   refine ai.val rfl (aa rfl) rfl ?_
   refine ai.val rfl (aa rfl) rfl ?_
   refine ai.val rfl (dA rfl (dx nV) rfl) rfl ?_
   refine ai.val rfl (aa rfl) rfl ?_
   refine ai.val rfl (dA rfl (dx nV) rfl) rfl ?_
   refine ai.val rfl (ak rfl rfl gP) rfl ?_
   obtain ⟨z5,hzz5,hzz4⟩:=bind_some hzz4
   refine ai.val rfl (lX rfl rfl nV hzz5) rfl ?_
   refine ai.val rfl (aa rfl) rfl ?_
   refine ai.val rfl (ak rfl rfl gJ) rfl ?_
   refine ai.val rfl (av (b:=true) rfl rfl) rfl ?_
   cases hzz4
   exact ai.nil ⟨_,rfl,(ah.put (ah.push rfl (ah.push rfl (ah.push rfl (ah.push rfl (ah.push rfl (ah.push rfl (ah.push rfl (ah.push rfl (ah.push rfl (ah.put (.refl _) (Less.eq (by rw [hB3])))))))))))) (.refl _))⟩
  refine ai.bool hB3 ?_
  refine ai.no rfl rfl ?_
  refine ai.no rfl rfl ?_
  refine ai.no rfl rfl ?_
  refine ai.no rfl rfl ?_
  refine ai.no rfl rfl ?_
  refine ai.no rfl rfl ?_
  refine ai.no rfl rfl ?_
  refine ai.no rfl rfl ?_
  refine ai.no rfl rfl ?_
  refine ai.val rfl (av (b:=false) rfl rfl) rfl ?_
  replace hzz4:=bu hB3 hzz4
  cases hzz4
  exact ai.nil ⟨_,rfl,(ah.put (ah.push rfl (ah.push rfl (ah.push rfl (ah.push rfl (ah.push rfl (ah.push rfl (ah.push rfl (ah.push rfl (ah.push rfl (ah.put (.refl _) (Less.eq (by rw [hB3])))))))))))) (.refl _))⟩
 refine ai.val rfl (ae rfl) rfl ?_
 refine ai.nil ?_
 have hr:=Option.some.inj h
 subst hr
 exact aj.ret ⟨_,rfl,rfl,dJ (au.eq .nil)⟩
set_option maxRecDepth 20000 in
set_option maxHeartbeats 4000000 in
theorem il (n:Nat) (a1:Str) (a2:Str) (r:(Str × Bool)) (h:bY n a1 a2=some r):aV R cfg.P 52 [(.str a1),(.str a2)] (.tup [.d (.str r.1),.d (.bool r.2)]):=by
 unfold bY at h
 refine aV.of_wp E.obj.toObjOk (C:=cfg) Tryd.func52 rfl CL rfl ?_
 have H0:Has ax ax []:=Has.pure
 refine aj.seq ?_
 refine aj.region E.obj rfl ?_
 refine ai.val rfl (ae rfl) rfl ?_
 refine ai.val rfl (ae rfl) rfl ?_
 refine ai.nil ?_
 refine aj.seq ?_
 refine aj.seq ?_
 refine aj.region E.obj rfl ?_
 refine ai.val rfl (aa rfl) rfl ?_
 refine ai.val rfl (aa rfl) rfl ?_
 obtain ⟨z3,hzz3,h⟩:=bind_some h
 refine ai.ret rfl (ay rfl rfl) (ik E _ _ _ _ hzz3 _ _ (au.eq (au.eq .nil))) rfl ?_
 refine ai.val rfl (bH rfl) rfl ?_
 refine ai.nil ?_
 refine aj.cond rfl (fun hb4=>?_) (fun hb4=>?_)
 ·
  replace h:=bz hb4 h
  refine aj.seq ?_
  refine aj.region E.obj rfl ?_
  refine ai.val rfl (aa rfl) rfl ?_
  refine ai.val rfl (ae rfl) rfl ?_
  refine ai.val rfl (ae rfl) rfl ?_
  refine ai.nil ?_
  have hr:=Option.some.inj h
  subst hr
  exact aj.ret ⟨_,rfl,rfl,gF (vs:=[(.d (.str a1)),(.d (.bool false))]) (ds:=[(.str a1),(.bool false)]) (au.eq (au.eq .nil))⟩
 replace h:=bu hb4 h
 refine aj.skip ?_
 refine aj.seq ?_
 refine aj.region E.obj rfl ?_
 refine ai.val rfl (aa rfl) rfl ?_
 refine ai.val rfl (aa rfl) rfl ?_
 refine ai.val rfl (dA rfl (dx nV) rfl) rfl ?_
 obtain ⟨z5,hzz5,h⟩:=bind_some h
 refine ai.val rfl (lX rfl rfl nV hzz5) rfl ?_
 refine ai.val rfl (ae rfl) rfl ?_
 refine ai.val rfl (ae rfl) rfl ?_
 refine ai.nil ?_
 have hr:=Option.some.inj h
 subst hr
 exact aj.ret ⟨_,rfl,rfl,gF (vs:=[(.d (.str z5)),(.d (.bool true))]) (ds:=[(.str z5),(.bool true)]) (au.eq (au.eq .nil))⟩
set_option maxRecDepth 20000 in
set_option maxHeartbeats 4000000 in
theorem iq (n:Nat) (a1:Str) (a2:Str) (r:(Str × Bool)) (h:bX n a1 a2=some r):aV R cfg.P 71 [(.str a1),(.str a2)] (.tup [.d (.str r.1),.d (.bool r.2)]):=by
 unfold bX at h
 refine aV.of_wp E.obj.toObjOk (C:=cfg) Tryd.func71 rfl CQ rfl ?_
 have H0:Has ax ax []:=Has.pure
 refine aj.seq ?_
 refine aj.region E.obj rfl ?_
 refine ai.val rfl (ae rfl) rfl ?_
 refine ai.val rfl (ae rfl) rfl ?_
 refine ai.nil ?_
 refine aj.seq ?_
 refine aj.seq ?_
 refine aj.region E.obj rfl ?_
 refine ai.val rfl (aa rfl) rfl ?_
 refine ai.val rfl (aa rfl) rfl ?_
 obtain ⟨z3,hzz3,h⟩:=bind_some h
 refine ai.ret rfl (ay rfl rfl) (ig E _ _ _ _ hzz3 _ _ (au.eq (au.eq .nil))) rfl ?_
 refine ai.val rfl (bH rfl) rfl ?_
 refine ai.nil ?_
 refine aj.cond rfl (fun hb4=>?_) (fun hb4=>?_)
 ·
  replace h:=bz hb4 h
  refine aj.seq ?_
  refine aj.region E.obj rfl ?_
  refine ai.val rfl (aa rfl) rfl ?_
  refine ai.val rfl (ae rfl) rfl ?_
  refine ai.val rfl (ae rfl) rfl ?_
  refine ai.nil ?_
  have hr:=Option.some.inj h
  subst hr
  exact aj.ret ⟨_,rfl,rfl,gF (vs:=[(.d (.str a1)),(.d (.bool false))]) (ds:=[(.str a1),(.bool false)]) (au.eq (au.eq .nil))⟩
 replace h:=bu hb4 h
 refine aj.skip ?_
 refine aj.seq ?_
 refine aj.region E.obj rfl ?_
 refine ai.val rfl (aa rfl) rfl ?_
 refine ai.val rfl (aa rfl) rfl ?_
 refine ai.val rfl (dA rfl (dx nV) rfl) rfl ?_
 refine ai.val rfl (aa rfl) rfl ?_
 refine ai.val rfl (dA rfl (dx nV) rfl) rfl ?_
 refine ai.val rfl (ak rfl rfl gP) rfl ?_
 obtain ⟨z5,hzz5,h⟩:=bind_some h
 refine ai.val rfl (lS rfl rfl nV hzz5) rfl ?_
 refine ai.val rfl (ae rfl) rfl ?_
 refine ai.val rfl (ae rfl) rfl ?_
 refine ai.nil ?_
 have hr:=Option.some.inj h
 subst hr
 exact aj.ret ⟨_,rfl,rfl,gF (vs:=[(.d (.str z5)),(.d (.bool true))]) (ds:=[(.str z5),(.bool true)]) (au.eq (au.eq .nil))⟩
set_option maxRecDepth 20000 in
set_option maxHeartbeats 4000000 in
theorem gu (n:Nat) (a1:Str) (a2:Str) (r:(Str × Bool)) (h:strings_CutPrefix n a1 a2=some r):aV R cfg.P 39 [(.str a1),(.str a2)] (.tup [.d (.str r.1),.d (.bool r.2)]):=by
 unfold strings_CutPrefix at h
 refine aV.of_wp E.obj.toObjOk (C:=cfg) Tryd.func39 rfl CP rfl ?_
 have H0:Has ax ax []:=Has.pure
 refine aj.seq ?_
 refine aj.region E.obj rfl ?_
 refine ai.val rfl (ae rfl) rfl ?_
 refine ai.val rfl (ae rfl) rfl ?_
 refine ai.nil ?_
 refine aj.seq ?_
 refine aj.region E.obj rfl ?_
 refine ai.val rfl (aa rfl) rfl ?_
 refine ai.val rfl (aa rfl) rfl ?_
 obtain ⟨z3,hzz3,h⟩:=bind_some h
 refine ai.ret rfl (ay rfl rfl) (il E _ _ _ _ hzz3 _ _ (au.eq (au.eq .nil))) rfl ?_
 refine ai.val rfl (aD rfl rfl) rfl ?_
 refine ai.val rfl (aD rfl rfl) rfl ?_
 refine ai.val rfl (ae rfl) rfl ?_
 refine ai.val rfl (ae rfl) rfl ?_
 refine ai.nil ?_
 have hr:=Option.some.inj h
 subst hr
 exact aj.ret ⟨_,rfl,rfl,gF (vs:=[(.d (.str z3.1)),(.d (.bool z3.2))]) (ds:=[(.str z3.1),(.bool z3.2)]) (au.eq (au.eq .nil))⟩
set_option maxRecDepth 20000 in
set_option maxHeartbeats 4000000 in
theorem lQ (n:Nat) (a1:Str) (a2:Str) (r:(Str × Bool)) (h:strings_CutSuffix n a1 a2=some r):aV R cfg.P 54 [(.str a1),(.str a2)] (.tup [.d (.str r.1),.d (.bool r.2)]):=by
 unfold strings_CutSuffix at h
 refine aV.of_wp E.obj.toObjOk (C:=cfg) Tryd.func54 rfl Cw rfl ?_
 have H0:Has ax ax []:=Has.pure
 refine aj.seq ?_
 refine aj.region E.obj rfl ?_
 refine ai.val rfl (ae rfl) rfl ?_
 refine ai.val rfl (ae rfl) rfl ?_
 refine ai.nil ?_
 refine aj.seq ?_
 refine aj.region E.obj rfl ?_
 refine ai.val rfl (aa rfl) rfl ?_
 refine ai.val rfl (aa rfl) rfl ?_
 obtain ⟨z3,hzz3,h⟩:=bind_some h
 refine ai.ret rfl (ay rfl rfl) (iq E _ _ _ _ hzz3 _ _ (au.eq (au.eq .nil))) rfl ?_
 refine ai.val rfl (aD rfl rfl) rfl ?_
 refine ai.val rfl (aD rfl rfl) rfl ?_
 refine ai.val rfl (ae rfl) rfl ?_
 refine ai.val rfl (ae rfl) rfl ?_
 refine ai.nil ?_
 have hr:=Option.some.inj h
 subst hr
 exact aj.ret ⟨_,rfl,rfl,gF (vs:=[(.d (.str z3.1)),(.d (.bool z3.2))]) (ds:=[(.str z3.1),(.bool z3.2)]) (au.eq (au.eq .nil))⟩
set_option maxRecDepth 20000 in
set_option maxHeartbeats 4000000 in
theorem nI (n:Nat) (a1:Str) (r:Seg) (h:fH n a1=some r):aV R cfg.P 41 [(.str a1)] (.d (aF r)):=by
 unfold fH at h
 refine aV.of_wp E.obj.toObjOk (C:=cfg) Tryd.func41 rfl CS rfl ?_
 have H0:Has ax ax []:=Has.pure
 refine aj.seq ?_
 refine aj.region E.obj rfl ?_
 refine ai.alloc H0 rfl yB mK rfl rfl (fun b2 S3 H4=>?_)
 refine ai.nil ?_
 refine aj.seq ?_
 refine aj.seq ?_
 refine aj.region E.obj rfl ?_
 refine ai.val rfl (aa rfl) rfl ?_
 obtain ⟨z5,hzz5,h⟩:=bind_some h
 refine ai.ret rfl (ay rfl rfl) (gu E _ _ _ _ hzz5 _ _ (au.eq (au.eq .nil))) rfl ?_
 refine ai.val rfl (aa rfl) rfl ?_
 refine ai.val rfl (aD rfl rfl) rfl ?_
 refine ai.val rfl (aD rfl rfl) rfl ?_
 refine ai.val rfl (ae rfl) rfl ?_
 refine ai.val rfl (ae rfl) rfl ?_
 refine ai.nil ?_
 refine aj.seq ?_
 refine aj.region E.obj rfl ?_
 refine ai.val rfl (aa rfl) rfl ?_
 refine ai.nil ?_
 refine aj.cond rfl (fun hb6=>?_) (fun hb6=>?_)
 ·
  replace h:=bz hb6 h
  refine aj.seq ?_
  refine aj.region E.obj rfl ?_
  refine ai.val rfl (aa rfl) rfl ?_
  refine ai.val rfl (bU (cs:=[(.d (.int .i64 3)),(.d (.str z5.1))]) mK rfl (dS) (eG rfl rfl rfl rfl (eG rfl rfl rfl rfl rfl))) rfl ?_
  refine ai.less (Less.agg' (d:=aF (Seg.mk 3 z5.1)) (aQ.eq rfl (aQ.eq rfl .nil)) ((Seg.eq _).trans rfl)) ?_
  refine ai.store H4 (i:=0) rfl rfl rfl rfl (Seg.eO _) rfl fD rfl mJ rfl rfl rfl (fun S7 H8=>?_)
  refine ai.nil ?_
  have hr:=Option.some.inj h
  subst hr
  exact aj.ret ⟨_,iN H8 (i:=0) rfl rfl rfl (jr nu fD rfl),rfl,dJ (au.nY (d:=aF (Seg.mk 3 z5.1)) (aQ.eq rfl (aQ.eq rfl .nil)) ((Seg.eq _).trans rfl))⟩
 replace h:=bu hb6 h
 refine aj.skip ?_
 refine aj.seq ?_
 refine aj.region E.obj rfl ?_
 refine ai.val rfl (aa rfl) rfl ?_
 obtain ⟨z9,hzz9,h⟩:=bind_some h
 refine ai.ret rfl (ay rfl rfl) (gu E _ _ _ _ hzz9 _ _ (au.eq (au.eq .nil))) rfl ?_
 refine ai.val rfl (aa rfl) rfl ?_
 refine ai.val rfl (aD rfl rfl) rfl ?_
 refine ai.val rfl (aD rfl rfl) rfl ?_
 refine ai.val rfl (ae rfl) rfl ?_
 refine ai.val rfl (ae rfl) rfl ?_
 refine ai.nil ?_
 refine aj.seq ?_
 refine aj.seq ?_
 refine aj.region E.obj rfl ?_
 refine ai.val rfl (aa rfl) rfl ?_
 refine ai.val rfl (bH rfl) rfl ?_
 refine ai.nil ?_
 refine aj.cond rfl (fun hb10=>?_) (fun hb10=>?_)
 ·
  replace h:=bz hb10 h
  refine aj.seq ?_
  refine aj.region E.obj rfl ?_
  refine ai.val rfl (aa rfl) rfl ?_
  refine ai.val rfl (bU (cs:=[(.d (.int .i64 0)),(.d (.str a1))]) mK rfl (dS) (eG rfl rfl rfl rfl rfl)) rfl ?_
  refine ai.less (Less.agg' (d:=aF (Seg.mk 0 a1)) (aQ.eq rfl (aQ.eq rfl .nil)) ((Seg.eq _).trans rfl)) ?_
  refine ai.store H4 (i:=0) rfl rfl rfl rfl (Seg.eO _) rfl fD rfl mJ rfl rfl rfl (fun S11 H12=>?_)
  refine ai.nil ?_
  have hr:=Option.some.inj h
  subst hr
  exact aj.ret ⟨_,iN H12 (i:=0) rfl rfl rfl (jr nu fD rfl),rfl,dJ (au.nY (d:=aF (Seg.mk 0 a1)) (aQ.eq rfl (aQ.eq rfl .nil)) ((Seg.eq _).trans rfl))⟩
 replace h:=bu hb10 h
 refine aj.skip ?_
 refine aj.seq ?_
 refine aj.seq ?_
 refine aj.region E.obj rfl ?_
 refine ai.val rfl (aa rfl) rfl ?_
 obtain ⟨z13,hzz13,h⟩:=bind_some h
 refine ai.ret rfl (ay rfl rfl) (lQ E _ _ _ _ hzz13 _ _ (au.eq (au.eq .nil))) rfl ?_
 refine ai.val rfl (aa rfl) rfl ?_
 refine ai.val rfl (aD rfl rfl) rfl ?_
 refine ai.val rfl (aD rfl rfl) rfl ?_
 refine ai.val rfl (ae rfl) rfl ?_
 refine ai.val rfl (ae rfl) rfl ?_
 refine ai.nil ?_
 refine aj.seq ?_
 refine aj.region E.obj rfl ?_
 refine ai.val rfl (aa rfl) rfl ?_
 refine ai.nil ?_
 refine aj.cond rfl (fun hb14=>?_) (fun hb14=>?_)
 ·
  replace h:=bz hb14 h
  refine aj.seq ?_
  refine aj.region E.obj rfl ?_
  refine ai.val rfl (aa rfl) rfl ?_
  refine ai.val rfl (bU (cs:=[(.d (.int .i64 2)),(.d (.str z13.1))]) mK rfl (dS) (eG rfl rfl rfl rfl (eG rfl rfl rfl rfl rfl))) rfl ?_
  refine ai.less (Less.agg' (d:=aF (Seg.mk 2 z13.1)) (aQ.eq rfl (aQ.eq rfl .nil)) ((Seg.eq _).trans rfl)) ?_
  refine ai.store H4 (i:=0) rfl rfl rfl rfl (Seg.eO _) rfl fD rfl mJ rfl rfl rfl (fun S15 H16=>?_)
  refine ai.nil ?_
  have hr:=Option.some.inj h
  subst hr
  exact aj.ret ⟨_,iN H16 (i:=0) rfl rfl rfl (jr nu fD rfl),rfl,dJ (au.nY (d:=aF (Seg.mk 2 z13.1)) (aQ.eq rfl (aQ.eq rfl .nil)) ((Seg.eq _).trans rfl))⟩
 replace h:=bu hb14 h
 refine aj.skip ?_
 refine aj.seq ?_
 refine aj.region E.obj rfl ?_
 refine ai.val rfl (aa rfl) rfl ?_
 refine ai.val rfl (bU (cs:=[(.d (.int .i64 1)),(.d (.str z9.1))]) mK rfl (dS) (eG rfl rfl rfl rfl (eG rfl rfl rfl rfl rfl))) rfl ?_
 refine ai.less (Less.agg' (d:=aF (Seg.mk 1 z9.1)) (aQ.eq rfl (aQ.eq rfl .nil)) ((Seg.eq _).trans rfl)) ?_
 refine ai.store H4 (i:=0) rfl rfl rfl rfl (Seg.eO _) rfl fD rfl mJ rfl rfl rfl (fun S17 H18=>?_)
 refine ai.nil ?_
 have hr:=Option.some.inj h
 subst hr
 exact aj.ret ⟨_,iN H18 (i:=0) rfl rfl rfl (jr nu fD rfl),rfl,dJ (au.nY (d:=aF (Seg.mk 1 z9.1)) (aQ.eq rfl (aQ.eq rfl .nil)) ((Seg.eq _).trans rfl))⟩
set_option maxRecDepth 20000 in
set_option maxHeartbeats 4000000 in
theorem dR (n:Nat) (a1:Str) (r:((List Seg) × Bool)) (h:cO n a1=some r):aV R cfg.P 20 [(.str a1)] (.tup [.d (.sl ((r.1).map aF) false),.d (.bool r.2)]):=by
 unfold cO at h
 refine aV.of_wp E.obj.toObjOk (C:=cfg) Tryd.func20 rfl nm20 rfl ?_
 have H0:Has ax ax []:=Has.pure
 refine aj.seq ?_
 refine aj.region E.obj rfl ?_
 refine ai.val rfl (ae rfl) rfl ?_
 refine ai.val rfl (ae rfl) rfl ?_
 refine ai.nil ?_
 refine aj.seq ?_
 refine aj.seq ?_
 refine aj.region E.obj rfl ?_
 refine ai.val rfl (aa rfl) rfl ?_
 refine ai.val rfl (ak rfl rfl gJ) rfl ?_
 refine ai.nil ?_
 refine aj.cond rfl (fun hb2=>?_) (fun hb2=>?_)
 ·
  replace h:=bz hb2 h
  refine aj.seq ?_
  refine aj.region E.obj rfl ?_
  refine ai.val rfl (ae rfl) rfl ?_
  refine ai.val rfl (ae rfl) rfl ?_
  refine ai.nil ?_
  have hr:=Option.some.inj h
  subst hr
  exact aj.ret ⟨_,rfl,rfl,gF (vs:=[(.d .bK),(.d (.bool true))]) (ds:=[(.sl (([]).map aF) false),(.bool true)]) (au.fA rfl (.bK false) (au.eq .nil))⟩
 replace h:=bu hb2 h
 refine aj.skip ?_
 refine aj.seq ?_
 refine aj.region E.obj rfl ?_
 refine ai.val rfl (aa rfl) rfl ?_
 obtain ⟨z3,hzz3,h⟩:=bind_some h
 refine ai.ret rfl (ay rfl rfl) (gu E _ _ _ _ hzz3 _ _ (au.eq (au.eq .nil))) rfl ?_
 refine ai.val rfl (aa rfl) rfl ?_
 refine ai.val rfl (aD rfl rfl) rfl ?_
 refine ai.val rfl (aD rfl rfl) rfl ?_
 refine ai.val rfl (ae rfl) rfl ?_
 refine ai.val rfl (ae rfl) rfl ?_
 refine ai.nil ?_
 refine aj.seq ?_
 refine aj.seq ?_
 refine aj.region E.obj rfl ?_
 refine ai.val rfl (aa rfl) rfl ?_
 refine ai.val rfl (bH rfl) rfl ?_
 refine ai.nil ?_
 refine aj.cond rfl (fun hb4=>?_) (fun hb4=>?_)
 ·
  replace h:=bz hb4 h
  refine aj.seq ?_
  refine aj.region E.obj rfl ?_
  refine ai.val rfl (ae rfl) rfl ?_
  refine ai.val rfl (ae rfl) rfl ?_
  refine ai.nil ?_
  have hr:=Option.some.inj h
  subst hr
  exact aj.ret ⟨_,rfl,rfl,gF (vs:=[(.d .bK),(.d (.bool false))]) (ds:=[(.sl (([]).map aF) false),(.bool false)]) (au.fA rfl (.bK false) (au.eq .nil))⟩
 replace h:=bu hb4 h
 refine aj.skip ?_
 refine aj.seq ?_
 refine aj.region E.obj rfl ?_
 refine ai.val rfl (ae rfl) rfl ?_
 refine ai.nil ?_
 refine aj.seq ?_
 refine aj.seq ?_
 refine aj.region E.obj rfl ?_
 refine ai.val rfl (aa rfl) rfl ?_
 obtain ⟨z5,hzz5,h⟩:=bind_some h
 refine ai.ret rfl (ay rfl rfl) (E.strings_Split_ok _ _ _ _ hzz5 _ _ (au.eq (au.eq .nil))) rfl ?_
 refine ai.val rfl (aO rfl o6) rfl ?_
 refine ai.val rfl (aa rfl) rfl ?_
 refine ai.nil ?_
 refine aj.block ?_
 have H29:=H0.yO
 refine lC.start (B:=ax) (α:=(List Seg) × AV × Int) (fun k a=>bI n z5 k a.1 a.2.2=some r) (fun a=>[(6,a.2.1),(19,(.d (.sl ((z5).map D.str) false))),(20,(.d (.int .i64 ((z5).length:Int)))),(21,(.d (.int .i64 a.2.2)))]) (fun a=>[.grow a.2.1 ((a.1).map aF)]) ?_ ?_ n ⟨⟨[],(.d .bK),0⟩,_,_,ax,.refl _ _,.refl _,(ah.r rfl (ah.r rfl (ah.r rfl (ah.r rfl ah.nil)))),H29.sl [0] rfl rfl,h⟩
 ·
  intro a h; simp [bI] at h
 intro k18 a S13 H14 h
 obtain ⟨x15,v16,x17⟩:=a
 replace h:bI n z5 (k18 + 1) x15 x17=some r:=h
 replace H14:Has ax S13 [.grow v16 ((x15).map aF)]:=H14
 unfold bI at h
 refine aj.seq ?_
 refine aj.region E.obj rfl ?_
 refine ai.val rfl (ak rfl rfl bV) rfl ?_
 refine ai.nil ?_
 refine aj.seq ?_
 refine aj.cond rfl (fun hb19=>?_) (fun hb19=>?_)
 ·
  replace h:=bz hb19 h
  refine aj.skip ?_
  refine aj.seq ?_
  refine aj.block ?_
  refine aj.seq ?_
  refine aj.region E.obj rfl ?_
  obtain ⟨z20,hzz20,h⟩:=bind_some h
  refine ai.val rfl (bQ rfl rfl (df (enc:=D.str) hzz20 je zT (((fun _=>rfl) _).trans mZ.symm))) rfl ?_
  refine ai.val rfl (aZ rfl (eu lN rfl)) rfl ?_
  refine ai.val rfl (ae rfl) rfl ?_
  refine ai.nil ?_
  refine aj.seq ?_
  refine aj.seq ?_
  refine aj.region E.obj rfl ?_
  refine ai.val rfl (aa rfl) rfl ?_
  refine ai.val rfl (uB H14 (i:=0) rfl rfl nZ) rfl ?_
  refine ai.val rfl (ak rfl rfl dw) rfl ?_
  refine ai.nil ?_
  refine aj.cond rfl (fun hb21=>?_) (fun hb21=>?_)
  ·
   replace h:=bz hb21 h
   refine aj.seq ?_
   refine aj.region E.obj rfl ?_
   refine ai.val rfl (ae rfl) rfl ?_
   refine ai.val rfl (ae rfl) rfl ?_
   refine ai.nil ?_
   have hr:=Option.some.inj h
   subst hr
   exact aj.ret ⟨_,rfl,rfl,gF (vs:=[(.d .bK),(.d (.bool false))]) (ds:=[(.sl (([]).map aF) false),(.bool false)]) (au.fA rfl (.bK false) (au.eq .nil))⟩
  replace h:=bu hb21 h
  refine aj.skip ?_
  refine aj.region E.obj rfl ?_
  refine ai.val rfl (aa rfl) rfl ?_
  refine ai.val rfl (aa rfl) rfl ?_
  obtain ⟨z22,hzz22,h⟩:=bind_some h
  refine ai.ret rfl (ay rfl rfl) (nI E _ _ _ hzz22 _ _ (au.eq .nil)) rfl ?_
  refine ai.val rfl (aU (vs:=[(.d (aF z22))]) (ds:=[(aF z22)]) yN nE nu mK fD rfl (by decide) (.cons rfl (Seg.len _) .nil) rfl (by intro d hd; simp only [List.mem_cons,List.not_mem_nil,or_false] at hd; rcases hd with rfl <;> exact Seg.agg _) rfl) rfl ?_
  obtain ⟨z23,hzz23,h⟩:=bind_some h
  refine ai.append (xs:=(x15).map aF) (ys:=([z22]).map aF) (zs:=(z23).map aF) H14 rfl rfl rfl (i:=0) rfl rfl yN AP nE (fq hzz23) AZ rfl (bJ (enc:=aF) (fun z=>(Seg.len z).trans fD.symm) _) (bJ (enc:=aF) (fun z=>(Seg.len z).trans fD.symm) _) AR rfl (jw hzz23) (fun v24 S25 H26=>?_)
  refine ai.val rfl (ae rfl) rfl ?_
  refine ai.nil ?_
  refine aj.region E.obj rfl ?_
  refine ai.val rfl (ak rfl rfl bP) rfl ?_
  refine ai.val rfl (aa rfl) rfl ?_
  refine ai.nil ?_
  exact ⟨⟨z23,v24,(IntKind.wrap .i64 (x17 + 1))⟩,_,_,S25,.refl _ _,.refl _,(ah.r rfl (ah.r rfl (ah.r rfl (ah.r rfl ah.nil)))),H26.sl [0] rfl rfl,h⟩
 replace h:=bu hb19 h
 refine aj.exit ?_
 refine aj.seq ?_
 refine aj.seq ?_
 refine aj.region E.obj rfl ?_
 refine ai.val rfl (aa rfl) rfl ?_
 obtain ⟨z27,hzz27,h⟩:=bind_some h
 refine ai.ret rfl (ay rfl rfl) (dO E _ _ _ hzz27 _ _ (au.grow H14 (i:=0) rfl .nil)) rfl ?_
 refine ai.val rfl (bH rfl) rfl ?_
 refine ai.nil ?_
 refine aj.cond rfl (fun hb28=>?_) (fun hb28=>?_)
 ·
  replace h:=bz hb28 h
  refine aj.seq ?_
  refine aj.region E.obj rfl ?_
  refine ai.val rfl (ae rfl) rfl ?_
  refine ai.val rfl (ae rfl) rfl ?_
  refine ai.nil ?_
  have hr:=Option.some.inj h
  subst hr
  exact aj.ret ⟨_,rfl,rfl,gF (vs:=[(.d .bK),(.d (.bool false))]) (ds:=[(.sl (([]).map aF) false),(.bool false)]) (au.fA rfl (.bK false) (au.eq .nil))⟩
 replace h:=bu hb28 h
 refine aj.skip ?_
 refine aj.seq ?_
 refine aj.region E.obj rfl ?_
 refine ai.val rfl (aa rfl) rfl ?_
 refine ai.val rfl (ae rfl) rfl ?_
 refine ai.val rfl (ae rfl) rfl ?_
 refine ai.nil ?_
 have hr:=Option.some.inj h
 subst hr
 exact aj.ret ⟨_,rfl,rfl,gF (vs:=[v16,(.d (.bool true))]) (ds:=[(.sl ((x15).map aF) false),(.bool true)]) (au.grow H14 (i:=0) rfl (au.eq .nil))⟩
set_option maxRecDepth 20000 in
set_option maxHeartbeats 4000000 in
theorem jy (n:Nat)  (r:Bool) (h:dI n  = some r):aV R cfg.P 16 [] (.d (.bool r)):=by
 unfold dI at h
 refine aV.of_wp E.obj.toObjOk (C:=cfg) Tryd.func16 rfl CB rfl ?_
 have H0:Has ax ax []:=Has.pure
 refine aj.seq ?_
 refine aj.region E.obj rfl ?_
 refine ai.val rfl (ae rfl) rfl ?_
 refine ai.nil ?_
 refine aj.seq ?_
 refine aj.region E.obj rfl ?_
 obtain ⟨z1,hzz1,h⟩:=bind_some h
 refine ai.ret rfl (ay rfl rfl) (dR E _ _ _ hzz1 _ _ (au.eq .nil)) rfl ?_
 refine ai.val rfl (aa rfl) rfl ?_
 refine ai.val rfl (aD rfl rfl) rfl ?_
 refine ai.val rfl (aD rfl rfl) rfl ?_
 refine ai.val rfl (ae rfl) rfl ?_
 refine ai.val rfl (ae rfl) rfl ?_
 refine ai.nil ?_
 refine aj.seq ?_
 refine aj.region E.obj rfl ?_
 refine ai.val rfl (aa rfl) rfl ?_
 refine ai.val rfl (aU (vs:=[(.d (.str [97])),(.d (.str [55])),(.d (.str [120,32,121])),(.d (.str [122]))]) (ds:=[(.str [97]),(.str [55]),(.str [120,32,121]),(.str [122])]) oh je lN Au mZ rfl (by decide) (.cons rfl rfl (.cons rfl rfl (.cons rfl rfl (.cons rfl rfl .nil)))) rfl (by intro d hd; simp only [List.mem_cons,List.not_mem_nil,or_false] at hd; rcases hd with rfl | rfl | rfl | rfl <;> rfl) rfl) rfl ?_
 obtain ⟨z2,hzz2,h⟩:=bind_some h
 refine ai.ret rfl (ay rfl rfl) (kG E _ _ _ _ hzz2 _ _ (au.eq (au.fA rfl (.mr _ _) .nil))) rfl ?_
 refine ai.val rfl (aa rfl) rfl ?_
 refine ai.val rfl (aD rfl rfl) rfl ?_
 refine ai.val rfl (aD rfl rfl) rfl ?_
 refine ai.val rfl (ae rfl) rfl ?_
 refine ai.val rfl (ae rfl) rfl ?_
 refine ai.nil ?_
 refine aj.seq ?_
 refine aj.region E.obj rfl ?_
 refine ai.val rfl (aa rfl) rfl ?_
 refine ai.val rfl (bU (cs:=[(.d (.str [114,101,115,116])),(.d (.str [120,37,50,48,121,47,122]))]) mI rfl (dF) (eG rfl rfl rfl rfl (eG rfl rfl rfl rfl rfl))) rfl ?_
 refine ai.less (Less.agg' (d:=aB (aN.mk [114,101,115,116] [120,37,50,48,121,47,122])) (aQ.eq rfl (aQ.eq rfl .nil)) ((aN.eq _).trans rfl)) ?_
 refine ai.val rfl (bU (cs:=[(.d (.str [105,100])),(.d (.str [55]))]) mI rfl (dF) (eG rfl rfl rfl rfl (eG rfl rfl rfl rfl rfl))) rfl ?_
 refine ai.less (Less.agg' (d:=aB (aN.mk [105,100] [55])) (aQ.eq rfl (aQ.eq rfl .nil)) ((aN.eq _).trans rfl)) ?_
 refine ai.val rfl (aU (vs:=[(.d (aB (aN.mk [114,101,115,116] [120,37,50,48,121,47,122]))),(.d (aB (aN.mk [105,100] [55])))]) (ds:=[(aB (aN.mk [114,101,115,116] [120,37,50,48,121,47,122])),(aB (aN.mk [105,100] [55]))]) xP qo sN mI jJ rfl (by decide) (.cons rfl (aN.len _) (.cons rfl (aN.len _) .nil)) rfl (by intro d hd; simp only [List.mem_cons,List.not_mem_nil,or_false] at hd; rcases hd with rfl | rfl <;> exact aN.agg _) rfl) rfl ?_
 obtain ⟨z3,hzz3,h⟩:=bind_some h
 refine ai.ret rfl (ay rfl rfl) (kg E _ _ _ _ hzz3 _ _ (au.eq (au.fA rfl (.mr _ _) .nil))) rfl ?_
 refine ai.val rfl (aa rfl) rfl ?_
 refine ai.val rfl (aD rfl rfl) rfl ?_
 refine ai.val rfl (aD rfl rfl) rfl ?_
 refine ai.val rfl (ae rfl) rfl ?_
 refine ai.val rfl (ae rfl) rfl ?_
 refine ai.nil ?_
 refine aj.seq ?_
 refine aj.region E.obj rfl ?_
 refine ai.val rfl (aa rfl) rfl ?_
 refine ai.val rfl (bU (cs:=[(.d (.str [105,100])),(.d (.str []))]) mI rfl (dF) (eG rfl rfl rfl rfl rfl)) rfl ?_
 refine ai.less (Less.agg' (d:=aB (aN.mk [105,100] [])) (aQ.eq rfl (aQ.eq rfl .nil)) ((aN.eq _).trans rfl)) ?_
 refine ai.val rfl (bU (cs:=[(.d (.str [114,101,115,116])),(.d (.str []))]) mI rfl (dF) (eG rfl rfl rfl rfl rfl)) rfl ?_
 refine ai.less (Less.agg' (d:=aB (aN.mk [114,101,115,116] [])) (aQ.eq rfl (aQ.eq rfl .nil)) ((aN.eq _).trans rfl)) ?_
 refine ai.val rfl (aU (vs:=[(.d (aB (aN.mk [105,100] []))),(.d (aB (aN.mk [114,101,115,116] [])))]) (ds:=[(aB (aN.mk [105,100] [])),(aB (aN.mk [114,101,115,116] []))]) xP qo sN mI jJ rfl (by decide) (.cons rfl (aN.len _) (.cons rfl (aN.len _) .nil)) rfl (by intro d hd; simp only [List.mem_cons,List.not_mem_nil,or_false] at hd; rcases hd with rfl | rfl <;> exact aN.agg _) rfl) rfl ?_
 obtain ⟨z4,hzz4,h⟩:=bind_some h
 refine ai.ret rfl (ay rfl rfl) (kg E _ _ _ _ hzz4 _ _ (au.eq (au.fA rfl (.mr _ _) .nil))) rfl ?_
 refine ai.val rfl (aa rfl) rfl ?_
 refine ai.val rfl (aD rfl rfl) rfl ?_
 refine ai.val rfl (aD rfl rfl) rfl ?_
 refine ai.val rfl (ae rfl) rfl ?_
 refine ai.val rfl (ae rfl) rfl ?_
 refine ai.nil ?_
 refine aj.seq ?_
 refine aj.region E.obj rfl ?_
 obtain ⟨z5,hzz5,h⟩:=bind_some h
 refine ai.ret rfl (ay rfl rfl) (dR E _ _ _ hzz5 _ _ (au.eq .nil)) rfl ?_
 refine ai.val rfl (aa rfl) rfl ?_
 refine ai.val rfl (aD rfl rfl) rfl ?_
 refine ai.val rfl (aD rfl rfl) rfl ?_
 refine ai.val rfl (ae rfl) rfl ?_
 refine ai.val rfl (ae rfl) rfl ?_
 refine ai.nil ?_
 refine aj.seq ?_
 refine aj.region E.obj rfl ?_
 refine ai.val rfl (aa rfl) rfl ?_
 refine ai.val rfl (aa rfl) rfl ?_
 refine ai.bE 2 44 (.d (.bool (z1.2 && z2.2))) ?_ ?_
 ·
  rcases Bool.eq_false_or_eq_true (z1.2) with hB6 | hB6
  ·
   refine ai.bool hB6 ?_
   refine ai.val rfl (aa rfl) rfl ?_
   refine ai.val rfl (av (b:=true) rfl rfl) rfl ?_
   exact ai.nil ⟨_,rfl,(ah.put (ah.push rfl (ah.put (.refl _) (Less.eq (by rw [hB6])))) (Less.eq (by rw [hB6]; rw [Bool.true_and])))⟩
  refine ai.bool hB6 ?_
  refine ai.no rfl rfl ?_
  refine ai.val rfl (av (b:=false) rfl rfl) rfl ?_
  exact ai.nil ⟨_,rfl,(ah.put (ah.push rfl (ah.put (.refl _) (Less.eq (by rw [hB6])))) (Less.eq (by rw [hB6]; rw [Bool.false_and])))⟩
 refine ai.val rfl (aa rfl) rfl ?_
 obtain ⟨z8,hzz8,h⟩:=bind_some h
 refine ai.bE 6 51 (.d (.bool z8)) ?_ ?_
 ·
  rcases Bool.eq_false_or_eq_true ((z1.2 && z2.2)) with hB7 | hB7
  ·
   refine ai.bool hB7 ?_
   replace hzz8:=bz hB7 hzz8
   refine ai.val rfl (aa rfl) rfl ?_
   refine ai.val rfl (bU (cs:=[(.d (.str [105,100])),(.d (.str [55]))]) mI rfl (dF) (eG rfl rfl rfl rfl (eG rfl rfl rfl rfl rfl))) rfl ?_
   refine ai.less (Less.agg' (d:=aB (aN.mk [105,100] [55])) (aQ.eq rfl (aQ.eq rfl .nil)) ((aN.eq _).trans rfl)) ?_
   refine ai.val rfl (bU (cs:=[(.d (.str [114,101,115,116])),(.d (.str [120,37,50,48,121,47,122]))]) mI rfl (dF) (eG rfl rfl rfl rfl (eG rfl rfl rfl rfl rfl))) rfl ?_
   refine ai.less (Less.agg' (d:=aB (aN.mk [114,101,115,116] [120,37,50,48,121,47,122])) (aQ.eq rfl (aQ.eq rfl .nil)) ((aN.eq _).trans rfl)) ?_
   refine ai.val rfl (aU (vs:=[(.d (aB (aN.mk [105,100] [55]))),(.d (aB (aN.mk [114,101,115,116] [120,37,50,48,121,47,122])))]) (ds:=[(aB (aN.mk [105,100] [55])),(aB (aN.mk [114,101,115,116] [120,37,50,48,121,47,122]))]) xP qo sN mI jJ rfl (by decide) (.cons rfl (aN.len _) (.cons rfl (aN.len _) .nil)) rfl (by intro d hd; simp only [List.mem_cons,List.not_mem_nil,or_false] at hd; rcases hd with rfl | rfl <;> exact aN.agg _) rfl) rfl ?_
   obtain ⟨z9,hzz9,hzz8⟩:=bind_some hzz8
   refine ai.ret rfl (ay rfl rfl) (iW E _ _ _ _ hzz9 _ _ (au.eq (au.fA rfl (.mr _ _) .nil))) rfl ?_
   refine ai.val rfl (av (b:=true) rfl rfl) rfl ?_
   cases hzz8
   exact ai.nil ⟨_,rfl,(ah.put (ah.push rfl (ah.push rfl (ah.push rfl (ah.push rfl (ah.push rfl (ah.put (.refl _) (Less.eq (by rw [hB7])))))))) (.refl _))⟩
  refine ai.bool hB7 ?_
  refine ai.no rfl rfl ?_
  refine ai.no rfl rfl ?_
  refine ai.no rfl rfl ?_
  refine ai.no rfl rfl ?_
  refine ai.no rfl rfl ?_
  refine ai.val rfl (av (b:=false) rfl rfl) rfl ?_
  replace hzz8:=bu hB7 hzz8
  cases hzz8
  exact ai.nil ⟨_,rfl,(ah.put (ah.push rfl (ah.push rfl (ah.push rfl (ah.push rfl (ah.push rfl (ah.put (.refl _) (Less.eq (by rw [hB7])))))))) (.refl _))⟩
 refine ai.val rfl (aa rfl) rfl ?_
 refine ai.bE 2 54 (.d (.bool (z8 && z3.2))) ?_ ?_
 ·
  rcases Bool.eq_false_or_eq_true (z8) with hB10 | hB10
  ·
   refine ai.bool hB10 ?_
   refine ai.val rfl (aa rfl) rfl ?_
   refine ai.val rfl (av (b:=true) rfl rfl) rfl ?_
   exact ai.nil ⟨_,rfl,(ah.put (ah.push rfl (ah.put (.refl _) (Less.eq (by rw [hB10])))) (Less.eq (by rw [hB10]; rw [Bool.true_and])))⟩
  refine ai.bool hB10 ?_
  refine ai.no rfl rfl ?_
  refine ai.val rfl (av (b:=false) rfl rfl) rfl ?_
  exact ai.nil ⟨_,rfl,(ah.put (ah.push rfl (ah.put (.refl _) (Less.eq (by rw [hB10])))) (Less.eq (by rw [hB10]; rw [Bool.false_and])))⟩
 refine ai.val rfl (aa rfl) rfl ?_
 obtain ⟨z12,hzz12,h⟩:=bind_some h
 refine ai.bE 4 59 (.d (.bool z12)) ?_ ?_
 ·
  rcases Bool.eq_false_or_eq_true ((z8 && z3.2)) with hB11 | hB11
  ·
   refine ai.bool hB11 ?_
   replace hzz12:=bz hB11 hzz12
   refine ai.val rfl (aa rfl) rfl ?_
   refine ai.val rfl (aU (vs:=[(.d (.str [97])),(.d (.str [55])),(.d (.str [120,32,121])),(.d (.str [122]))]) (ds:=[(.str [97]),(.str [55]),(.str [120,32,121]),(.str [122])]) oh je lN Au mZ rfl (by decide) (.cons rfl rfl (.cons rfl rfl (.cons rfl rfl (.cons rfl rfl .nil)))) rfl (by intro d hd; simp only [List.mem_cons,List.not_mem_nil,or_false] at hd; rcases hd with rfl | rfl | rfl | rfl <;> rfl) rfl) rfl ?_
   obtain ⟨z13,hzz13,hzz12⟩:=bind_some hzz12
   refine ai.ret rfl (ay rfl rfl) (jD E _ _ _ _ hzz13 _ _ (au.eq (au.fA rfl (.mr _ _) .nil))) rfl ?_
   refine ai.val rfl (av (b:=true) rfl rfl) rfl ?_
   cases hzz12
   exact ai.nil ⟨_,rfl,(ah.put (ah.push rfl (ah.push rfl (ah.push rfl (ah.put (.refl _) (Less.eq (by rw [hB11])))))) (.refl _))⟩
  refine ai.bool hB11 ?_
  refine ai.no rfl rfl ?_
  refine ai.no rfl rfl ?_
  refine ai.no rfl rfl ?_
  refine ai.val rfl (av (b:=false) rfl rfl) rfl ?_
  replace hzz12:=bu hB11 hzz12
  cases hzz12
  exact ai.nil ⟨_,rfl,(ah.put (ah.push rfl (ah.push rfl (ah.push rfl (ah.put (.refl _) (Less.eq (by rw [hB11])))))) (.refl _))⟩
 refine ai.val rfl (aa rfl) rfl ?_
 refine ai.bE 3 63 (.d (.bool (z12 && (!z4.2)))) ?_ ?_
 ·
  rcases Bool.eq_false_or_eq_true (z12) with hB14 | hB14
  ·
   refine ai.bool hB14 ?_
   refine ai.val rfl (aa rfl) rfl ?_
   refine ai.val rfl (bH rfl) rfl ?_
   refine ai.val rfl (av (b:=true) rfl rfl) rfl ?_
   exact ai.nil ⟨_,rfl,(ah.put (ah.push rfl (ah.push rfl (ah.put (.refl _) (Less.eq (by rw [hB14]))))) (Less.eq (by rw [hB14]; rw [Bool.true_and])))⟩
  refine ai.bool hB14 ?_
  refine ai.no rfl rfl ?_
  refine ai.no rfl rfl ?_
  refine ai.val rfl (av (b:=false) rfl rfl) rfl ?_
  exact ai.nil ⟨_,rfl,(ah.put (ah.push rfl (ah.push rfl (ah.put (.refl _) (Less.eq (by rw [hB14]))))) (Less.eq (by rw [hB14]; rw [Bool.false_and])))⟩
 refine ai.val rfl (aa rfl) rfl ?_
 refine ai.bE 3 67 (.d (.bool ((z12 && (!z4.2)) && (!z5.2)))) ?_ ?_
 ·
  rcases Bool.eq_false_or_eq_true ((z12 && (!z4.2))) with hB15 | hB15
  ·
   refine ai.bool hB15 ?_
   refine ai.val rfl (aa rfl) rfl ?_
   refine ai.val rfl (bH rfl) rfl ?_
   refine ai.val rfl (av (b:=true) rfl rfl) rfl ?_
   exact ai.nil ⟨_,rfl,(ah.put (ah.push rfl (ah.push rfl (ah.put (.refl _) (Less.eq (by rw [hB15]))))) (Less.eq (by rw [hB15]; rw [Bool.true_and])))⟩
  refine ai.bool hB15 ?_
  refine ai.no rfl rfl ?_
  refine ai.no rfl rfl ?_
  refine ai.val rfl (av (b:=false) rfl rfl) rfl ?_
  exact ai.nil ⟨_,rfl,(ah.put (ah.push rfl (ah.push rfl (ah.put (.refl _) (Less.eq (by rw [hB15]))))) (Less.eq (by rw [hB15]; rw [Bool.false_and])))⟩
 refine ai.val rfl (ae rfl) rfl ?_
 refine ai.nil ?_
 have hr:=Option.some.inj h
 subst hr
 exact aj.ret ⟨_,rfl,rfl,dJ (au.eq .nil)⟩
set_option maxRecDepth 20000 in
set_option maxHeartbeats 4000000 in
theorem gI (n:Nat) (a1:(List Seg)) (r:Str) (h:dM n a1=some r):aV R cfg.P 19 [(.sl ((a1).map aF) false)] (.d (.str r)):=by
 unfold dM at h
 refine aV.of_wp E.obj.toObjOk (C:=cfg) Tryd.func19 rfl Cs rfl ?_
 have H0:Has ax ax []:=Has.pure
 refine aj.seq ?_
 refine aj.region E.obj rfl ?_
 refine ai.val rfl (ae rfl) rfl ?_
 refine ai.nil ?_
 refine aj.seq ?_
 refine aj.seq ?_
 refine aj.region E.obj rfl ?_
 refine ai.val rfl (aa rfl) rfl ?_
 obtain ⟨z2,hzz2,h⟩:=bind_some h
 refine ai.ret rfl (ay rfl rfl) (dO E _ _ _ hzz2 _ _ (au.eq .nil)) rfl ?_
 refine ai.val rfl (bH rfl) rfl ?_
 refine ai.nil ?_
 refine aj.cond rfl (fun hb3=>?_) (fun hb3=>?_)
 ·
  replace h:=bz hb3 h
  refine aj.seq ?_
  refine aj.region E.obj rfl ?_
  refine ai.val rfl (ae rfl) rfl ?_
  refine ai.nil ?_
  have hr:=Option.some.inj h
  subst hr
  exact aj.ret ⟨_,rfl,rfl,dJ (au.eq .nil)⟩
 replace h:=bu hb3 h
 refine aj.skip ?_
 refine aj.seq ?_
 refine aj.seq ?_
 refine aj.region E.obj rfl ?_
 refine ai.val rfl (aa rfl) rfl ?_
 refine ai.val rfl (aO rfl nZ) rfl ?_
 refine ai.val rfl (ak rfl rfl dw) rfl ?_
 refine ai.nil ?_
 refine aj.cond rfl (fun hb4=>?_) (fun hb4=>?_)
 ·
  replace h:=bz hb4 h
  refine aj.seq ?_
  refine aj.region E.obj rfl ?_
  refine ai.val rfl (ae rfl) rfl ?_
  refine ai.nil ?_
  have hr:=Option.some.inj h
  subst hr
  exact aj.ret ⟨_,rfl,rfl,dJ (au.eq .nil)⟩
 replace h:=bu hb4 h
 refine aj.skip ?_
 refine aj.seq ?_
 refine aj.region E.obj rfl ?_
 refine ai.rO H0 rfl AY rfl (fun b5 S6 H7=>?_)
 refine ai.nil ?_
 refine aj.seq ?_
 refine aj.seq ?_
 refine aj.region E.obj rfl ?_
 refine ai.val rfl (aa rfl) rfl ?_
 refine ai.val rfl (aO rfl nZ) rfl ?_
 refine ai.val rfl (aa rfl) rfl ?_
 refine ai.nil ?_
 refine aj.block ?_
 refine lC.start (B:=ax) (α:=Str × Int) (fun k a=>aT a1 k a.1 a.2=some r) (fun a=>[(3,(.ptr b5 0 0)),(12,(.d (.sl ((a1).map aF) false))),(13,(.d (.int .i64 ((a1).length:Int)))),(14,(.d (.int .i64 a.2)))]) (fun a=>[.obj b5 1 (.str a.1)]) ?_ ?_ n ⟨⟨[],0⟩,_,_,S6,.refl _ _,.refl _,(ah.r rfl (ah.r rfl (ah.r rfl (ah.r rfl ah.nil)))),H7.sl [0] rfl rfl,h⟩
 ·
  intro a h; simp [aT] at h
 intro k18 a S14 H15 h
 obtain ⟨x16,x17⟩:=a
 replace h:aT a1 (k18 + 1) x16 x17=some r:=h
 replace H15:Has ax S14 [.obj b5 1 (.str x16)]:=H15
 unfold aT at h
 refine aj.seq ?_
 refine aj.region E.obj rfl ?_
 refine ai.val rfl (ak rfl rfl bV) rfl ?_
 refine ai.nil ?_
 refine aj.seq ?_
 refine aj.cond rfl (fun hb19=>?_) (fun hb19=>?_)
 ·
  replace h:=bz hb19 h
  refine aj.skip ?_
  refine aj.join (B:=ax) (α:=Str) (fun a=>bO x17 (aT a1 k18) a=some r) (fun a=>[(3,(.ptr b5 0 0)),(12,(.d (.sl ((a1).map aF) false))),(13,(.d (.int .i64 ((a1).length:Int)))),(14,(.d (.int .i64 x17)))]) (fun a=>[.obj b5 1 (.str a)]) ?_ ?_
  ·
   intro x22 S20 H21 h
   replace h:bO x17 (aT a1 k18) x22=some r:=h
   replace H21:Has ax S20 [.obj b5 1 (.str x22)]:=H21
   unfold bO at h
   refine aj.region E.obj rfl ?_
   refine ai.val rfl (ak rfl rfl bP) rfl ?_
   refine ai.val rfl (aa rfl) rfl ?_
   refine ai.nil ?_
   exact ⟨⟨x22,(IntKind.wrap .i64 (x17 + 1))⟩,_,_,S20,.refl _ _,.refl _,(ah.r rfl (ah.r rfl (ah.r rfl (ah.r rfl ah.nil)))),H21.sl [0] rfl rfl,h⟩
  refine aj.block ?_
  refine aj.seq ?_
  refine aj.region E.obj rfl ?_
  obtain ⟨z24,hzz24,h⟩:=bind_some h
  refine ai.val rfl (bQ rfl rfl (df (enc:=aF) hzz24 nE mJ ((Seg.len _).trans fD.symm))) rfl ?_
  refine ai.val rfl (aZ rfl (Seg.kH nu fD)) rfl ?_
  refine ai.alloc H15 rfl yB mK rfl rfl (fun b25 S26 H27=>?_)
  refine ai.store H27 (i:=0) rfl rfl rfl rfl (Seg.eO _) rfl fD rfl mJ rfl rfl rfl (fun S28 H29=>?_)
  refine ai.nil ?_
  refine aj.seq ?_
  refine aj.region E.obj rfl ?_
  obtain ⟨z32,hzz32,h⟩:=bind_some h
  refine ai.wb E.bld H29 rfl rfl (i:=1) rfl hzz32 rfl (fun S30 H31=>?_)
  refine ai.nil ?_
  refine aj.seq ?_
  refine aj.region E.obj rfl ?_
  refine ai.val rfl (az rfl jA yU rfl) rfl ?_
  refine ai.val rfl (aL H31 (i:=0) rfl rfl (aR xN rfl)) rfl ?_
  refine ai.nil ?_
  refine aj.block ?_
  refine aj.seq ?_
  refine aj.region E.obj rfl ?_
  refine ai.val rfl (ak rfl rfl dw) rfl ?_
  refine ai.val rfl (ae rfl) rfl ?_
  refine ai.nil ?_
  refine aj.cond rfl (fun hb33=>?_) (fun hb33=>?_)
  ·
   replace h:=bz hb33 h
   refine aj.region E.obj rfl ?_
   refine ai.val rfl (az rfl iJ uN rfl) rfl ?_
   refine ai.val rfl (aL H31 (i:=0) rfl rfl (aR lN rfl)) rfl ?_
   obtain ⟨z36,hzz36,h⟩:=bind_some h
   refine ai.ws E.bld H31 rfl rfl (i:=1) rfl hzz36 rfl (fun S34 H35=>?_)
   refine ai.nil ?_
   exact ⟨z36,_,_,S34,.refl _ _,.refl _,(ah.r rfl (ah.r rfl (ah.r rfl (ah.r rfl ah.nil)))),H35.sl [1] rfl rfl,h⟩
  replace h:=bu hb33 h
  refine aj.seq ?_
  refine aj.region E.obj rfl ?_
  refine ai.val rfl (ak rfl rfl dw) rfl ?_
  refine ai.val rfl (ae rfl) rfl ?_
  refine ai.nil ?_
  refine aj.cond rfl (fun hb37=>?_) (fun hb37=>?_)
  ·
   replace h:=bz hb37 h
   refine aj.region E.obj rfl ?_
   refine ai.val rfl (az rfl iJ uN rfl) rfl ?_
   refine ai.val rfl (aL H31 (i:=0) rfl rfl (aR lN rfl)) rfl ?_
   obtain ⟨z38,hzz38,h⟩:=bind_some h
   refine ai.val rfl (ak rfl rfl (ky hzz38)) rfl ?_
   obtain ⟨z41,hzz41,h⟩:=bind_some h
   refine ai.ws E.bld H31 rfl rfl (i:=1) rfl hzz41 rfl (fun S39 H40=>?_)
   refine ai.nil ?_
   exact ⟨z41,_,_,S39,.refl _ _,.refl _,(ah.r rfl (ah.r rfl (ah.r rfl (ah.r rfl ah.nil)))),H40.sl [1] rfl rfl,h⟩
  replace h:=bu hb37 h
  refine aj.seq ?_
  refine aj.region E.obj rfl ?_
  refine ai.val rfl (ak rfl rfl dw) rfl ?_
  refine ai.val rfl (ae rfl) rfl ?_
  refine ai.nil ?_
  refine aj.cond rfl (fun hb42=>?_) (fun hb42=>?_)
  ·
   replace h:=bz hb42 h
   refine aj.region E.obj rfl ?_
   refine ai.val rfl (az rfl iJ uN rfl) rfl ?_
   refine ai.val rfl (aL H31 (i:=0) rfl rfl (aR lN rfl)) rfl ?_
   obtain ⟨z43,hzz43,h⟩:=bind_some h
   refine ai.val rfl (ak rfl rfl (ky hzz43)) rfl ?_
   obtain ⟨z44,hzz44,h⟩:=bind_some h
   refine ai.val rfl (ak rfl rfl (ky hzz44)) rfl ?_
   obtain ⟨z47,hzz47,h⟩:=bind_some h
   refine ai.ws E.bld H31 rfl rfl (i:=1) rfl hzz47 rfl (fun S45 H46=>?_)
   refine ai.nil ?_
   exact ⟨z47,_,_,S45,.refl _ _,.refl _,(ah.r rfl (ah.r rfl (ah.r rfl (ah.r rfl ah.nil)))),H46.sl [1] rfl rfl,h⟩
  replace h:=bu hb42 h
  refine aj.region E.obj rfl ?_
  refine ai.val rfl (az rfl iJ uN rfl) rfl ?_
  refine ai.val rfl (aL H31 (i:=0) rfl rfl (aR lN rfl)) rfl ?_
  obtain ⟨z48,hzz48,h⟩:=bind_some h
  refine ai.val rfl (ak rfl rfl (ky hzz48)) rfl ?_
  obtain ⟨z51,hzz51,h⟩:=bind_some h
  refine ai.ws E.bld H31 rfl rfl (i:=1) rfl hzz51 rfl (fun S49 H50=>?_)
  refine ai.nil ?_
  exact ⟨z51,_,_,S49,.refl _ _,.refl _,(ah.r rfl (ah.r rfl (ah.r rfl (ah.r rfl ah.nil)))),H50.sl [1] rfl rfl,h⟩
 replace h:=bu hb19 h
 refine aj.exit ?_
 refine aj.seq ?_
 refine aj.region E.obj rfl ?_
 refine ai.st E.bld H15 rfl rfl (i:=0) rfl rfl (fun S52 H53=>?_)
 refine ai.val rfl (ae rfl) rfl ?_
 refine ai.nil ?_
 have hr:=Option.some.inj h
 subst hr
 exact aj.ret ⟨_,rfl,rfl,dJ (au.eq .nil)⟩
set_option maxRecDepth 20000 in
set_option maxHeartbeats 4000000 in
theorem dK (n:Nat) (a1:(List Seg)) (a2:(List Seg)) (r:Bool) (h:bg n a1 a2=some r):aV R cfg.P 21 [(.sl ((a1).map aF) false),(.sl ((a2).map aF) false)] (.d (.bool r)):=by
 unfold bg at h
 refine aV.of_wp E.obj.toObjOk (C:=cfg) Tryd.func21 rfl Ch rfl ?_
 have H0:Has ax ax []:=Has.pure
 refine aj.seq ?_
 refine aj.region E.obj rfl ?_
 refine ai.val rfl (ae rfl) rfl ?_
 refine ai.nil ?_
 refine aj.seq ?_
 refine aj.seq ?_
 refine aj.region E.obj rfl ?_
 refine ai.val rfl (aa rfl) rfl ?_
 refine ai.val rfl (aO rfl nZ) rfl ?_
 refine ai.val rfl (aa rfl) rfl ?_
 refine ai.val rfl (aO rfl nZ) rfl ?_
 refine ai.val rfl (ak rfl rfl jB) rfl ?_
 refine ai.nil ?_
 refine aj.cond rfl (fun hb3=>?_) (fun hb3=>?_)
 ·
  replace h:=bz hb3 h
  refine aj.seq ?_
  refine aj.region E.obj rfl ?_
  refine ai.val rfl (ae rfl) rfl ?_
  refine ai.nil ?_
  have hr:=Option.some.inj h
  subst hr
  exact aj.ret ⟨_,rfl,rfl,dJ (au.eq .nil)⟩
 replace h:=bu hb3 h
 refine aj.skip ?_
 refine aj.seq ?_
 refine aj.seq ?_
 refine aj.region E.obj rfl ?_
 refine ai.val rfl (ae rfl) rfl ?_
 refine ai.nil ?_
 refine aj.block ?_
 refine lC.start (B:=ax) (α:=Int) (fun k a=>aP a1 a2 k a=some r) (fun a=>[(0,(.d (.sl ((a1).map aF) false))),(1,(.d (.sl ((a2).map aF) false))),(5,(.d (.int .i64 a)))]) (fun a=>[]) ?_ ?_ n ⟨0,_,_,ax,.refl _ _,.refl _,(ah.r rfl (ah.r rfl (ah.r rfl ah.nil))),H0.sl [] rfl rfl,h⟩
 ·
  intro a h; simp [aP] at h
 intro k12 x11 S9 H10 h
 replace h:aP a1 a2 (k12 + 1) x11=some r:=h
 replace H10:Has ax S9 []:=H10
 unfold aP at h
 refine aj.seq ?_
 refine aj.seq ?_
 refine aj.region E.obj rfl ?_
 refine ai.val rfl (aa rfl) rfl ?_
 refine ai.val rfl (aa rfl) rfl ?_
 refine ai.val rfl (aO rfl nZ) rfl ?_
 refine ai.val rfl (ak rfl rfl bV) rfl ?_
 refine ai.nil ?_
 refine aj.cond rfl (fun hb13=>?_) (fun hb13=>?_)
 ·
  replace h:=bz hb13 h
  refine aj.skip ?_
  refine aj.seq ?_
  refine aj.block ?_
  refine aj.seq ?_
  obtain ⟨z14,hzz14,h⟩:=bind_some h
  obtain ⟨z15,hzz15,h⟩:=bind_some h
  refine aj.qV E.obj wU CX [(0,none),(1,none),(5,none),(25,some 8)] (by kernel_rfl) [] (by decide) [some (.d (.sl ((a1).map aF) false)),some (.d (.int .i64 x11)),some (.eptr (aF z14) 0),some (.d (aF z14)),some (.d (.sl ((a2).map aF) false)),some (.d (.int .i64 x11)),some (.eptr (aF z15) 0),some (.d (aF z15)),some (.d (.bool (!(Seg.beq z14 z15))))] ?_
  refine ⟨[0,1,2,3,4,5,6,7,8],by kernel_rfl,?_,_,rfl,?_⟩
  ·
   refine .v rfl rfl rfl rfl (aa rfl) ?_
   refine .v rfl rfl rfl rfl (aa rfl) ?_
   refine .v rfl rfl rfl rfl (bQ rfl rfl (df (enc:=aF) hzz14 nE mJ ((Seg.len _).trans fD.symm))) ?_
   refine .v rfl rfl rfl rfl (aZ rfl (Seg.kH nu fD)) ?_
   refine .v rfl rfl rfl rfl (aa rfl) ?_
   refine .v rfl rfl rfl rfl (aa rfl) ?_
   refine .v rfl rfl rfl rfl (bQ rfl rfl (df (enc:=aF) hzz15 nE mJ ((Seg.len _).trans fD.symm))) ?_
   refine .v rfl rfl rfl rfl (aZ rfl (Seg.kH nu fD)) ?_
   refine .v rfl rfl rfl rfl (ak rfl rfl (rF (Seg.eq _) (Seg.eq _) (BF _ _))) ?_
   exact .nil
  refine aj.cond rfl (fun hb16=>?_) (fun hb16=>?_)
  ·
   replace h:=bz hb16 h
   refine aj.seq ?_
   refine aj.region E.obj rfl ?_
   refine ai.val rfl (ae rfl) rfl ?_
   refine ai.nil ?_
   have hr:=Option.some.inj h
   subst hr
   exact aj.ret ⟨_,rfl,rfl,dJ (au.eq .nil)⟩
  replace h:=bu hb16 h
  refine aj.skip ?_
  refine aj.region E.obj rfl ?_
  refine ai.val rfl (aa rfl) rfl ?_
  refine ai.val rfl (ak rfl rfl bP) rfl ?_
  refine ai.val rfl (ae rfl) rfl ?_
  refine ai.nil ?_
  exact ⟨(IntKind.wrap .i64 (x11 + 1)),_,_,S9,.refl _ _,.refl _,(ah.r rfl (ah.r rfl (ah.r rfl ah.nil))),H10.sl [] rfl rfl,h⟩
 replace h:=bu hb13 h
 refine aj.exit ?_
 refine aj.seq ?_
 refine aj.region E.obj rfl ?_
 refine ai.val rfl (ae rfl) rfl ?_
 refine ai.nil ?_
 have hr:=Option.some.inj h
 subst hr
 exact aj.ret ⟨_,rfl,rfl,dJ (au.eq .nil)⟩
set_option maxRecDepth 20000 in
set_option maxHeartbeats 4000000 in
theorem rZ (n:Nat) (a1:bq) (a2:bq) (a3:(List Seg)) (a4:Str) (r:Bool) (h:dH n a1 a2 a3 a4=some r):aV R cfg.P 5 [(di a1),(di a2),(.sl ((a3).map aF) false),(.str a4)] (.d (.bool r)):=by
 unfold dH at h
 refine aV.of_wp E.obj.toObjOk (C:=cfg) Tryd.func5 rfl Dx rfl ?_
 have H0:Has ax ax []:=Has.pure
 refine aj.seq ?_
 refine aj.region E.obj rfl ?_
 refine ai.box H0 rfl rfl rfl (bq.eO _) rfl (fun b5 S6 H7=>?_)
 refine ai.box H7 rfl rfl rfl (bq.eO _) rfl (fun b8 S9 H10=>?_)
 refine ai.val rfl (ae rfl) rfl ?_
 refine ai.nil ?_
 refine aj.seq ?_
 obtain ⟨z11,hzz11,h⟩:=bind_some h
 obtain ⟨z12,hzz12,h⟩:=bind_some h
 refine aj.qV E.obj wU Dt [(2,none),(3,none),(9,some 4),(10,some 5)] (by kernel_rfl) [] (by decide) [some (.d (di a1)),some (.d (.sl ((z11).map aF) false)),some (.d (di a2)),some (.d (.sl ((z12).map aF) false)),some (.d (.sl ((z11).map aF) false)),some (.d (.sl ((z12).map aF) false))] ?_
 refine ⟨[0,1,2,3,4,5],by kernel_rfl,?_,_,rfl,?_⟩
 ·
  refine .cons rfl rfl rfl (.step ?_) ?_
  ·
   refine ai.val rfl (aL H10 (i:=1) rfl rfl (jr BD BH rfl)) rfl ?_
   refine ai.less (Less.agg' (d:=di a1) (aQ.eq rfl (aQ.eq rfl (aQ.eq rfl .nil))) ((bq.eq _).trans rfl)) ?_
   exact ai.nil ⟨_,_,rfl,fun _ ht=>by cases ht; exact ⟨rfl,.refl _⟩⟩
  refine .cons rfl rfl rfl (.step ?_) ?_
  ·
   refine ai.ret rfl (ay rfl rfl) (fT E _ _ _ hzz11 _ _ (au.eq .nil)) rfl ?_
   exact ai.nil ⟨_,_,rfl,fun _ ht=>by cases ht; exact ⟨rfl,.refl _⟩⟩
  refine .cons rfl rfl rfl (.step ?_) ?_
  ·
   refine ai.val rfl (aL H10 (i:=0) rfl rfl (jr BD BH rfl)) rfl ?_
   refine ai.less (Less.agg' (d:=di a2) (aQ.eq rfl (aQ.eq rfl (aQ.eq rfl .nil))) ((bq.eq _).trans rfl)) ?_
   exact ai.nil ⟨_,_,rfl,fun _ ht=>by cases ht; exact ⟨rfl,.refl _⟩⟩
  refine .cons rfl rfl rfl (.step ?_) ?_
  ·
   refine ai.ret rfl (ay rfl rfl) (fT E _ _ _ hzz12 _ _ (au.eq .nil)) rfl ?_
   exact ai.nil ⟨_,_,rfl,fun _ ht=>by cases ht; exact ⟨rfl,.refl _⟩⟩
  refine .v rfl rfl rfl rfl (ae rfl) ?_
  refine .v rfl rfl rfl rfl (ae rfl) ?_
  exact .nil
 refine aj.seq ?_
 refine aj.region E.obj rfl ?_
 refine ai.val rfl (aa rfl) rfl ?_
 obtain ⟨z13,hzz13,h⟩:=bind_some h
 refine ai.ret rfl (ay rfl rfl) (gI E _ _ _ hzz13 _ _ (au.eq .nil)) rfl ?_
 refine ai.val rfl (aa rfl) rfl ?_
 obtain ⟨z14,hzz14,h⟩:=bind_some h
 refine ai.ret rfl (ay rfl rfl) (gI E _ _ _ hzz14 _ _ (au.eq .nil)) rfl ?_
 refine ai.val rfl (ae rfl) rfl ?_
 refine ai.val rfl (ae rfl) rfl ?_
 refine ai.nil ?_
 refine aj.seq ?_
 refine aj.region E.obj rfl ?_
 refine ai.val rfl (aa rfl) rfl ?_
 obtain ⟨z15,hzz15,h⟩:=bind_some h
 refine ai.ret rfl (ay rfl rfl) (dR E _ _ _ hzz15 _ _ (au.eq .nil)) rfl ?_
 refine ai.val rfl (aa rfl) rfl ?_
 refine ai.val rfl (aD rfl rfl) rfl ?_
 refine ai.val rfl (aD rfl rfl) rfl ?_
 refine ai.val rfl (ae rfl) rfl ?_
 refine ai.val rfl (ae rfl) rfl ?_
 refine ai.nil ?_
 refine aj.seq ?_
 refine aj.seq ?_
 refine aj.region E.obj rfl ?_
 refine ai.val rfl (aa rfl) rfl ?_
 refine ai.val rfl (bH rfl) rfl ?_
 refine ai.val rfl (aa rfl) rfl ?_
 obtain ⟨z17,hzz17,h⟩:=bind_some h
 refine ai.bE 5 41 (.d (.bool z17)) ?_ ?_
 ·
  rcases Bool.eq_false_or_eq_true ((!z15.2)) with hB16 | hB16
  ·
   refine ai.bool hB16 ?_
   refine ai.no rfl rfl ?_
   refine ai.no rfl rfl ?_
   refine ai.no rfl rfl ?_
   refine ai.no rfl rfl ?_
   refine ai.val rfl (av (b:=true) rfl rfl) rfl ?_
   replace hzz17:=bz hB16 hzz17
   cases hzz17
   exact ai.nil ⟨_,rfl,(ah.put (ah.push rfl (ah.push rfl (ah.push rfl (ah.push rfl (ah.put (.refl _) (Less.eq (by rw [hB16]))))))) (.refl _))⟩
  refine ai.bool hB16 ?_
  replace hzz17:=bu hB16 hzz17
  refine ai.val rfl (aa rfl) rfl ?_
  refine ai.val rfl (aa rfl) rfl ?_
  obtain ⟨z18,hzz18,hzz17⟩:=bind_some hzz17
  refine ai.ret rfl (ay rfl rfl) (dK E _ _ _ _ hzz18 _ _ (au.eq (au.eq .nil))) rfl ?_
  refine ai.val rfl (bH rfl) rfl ?_
  refine ai.val rfl (av (b:=false) rfl rfl) rfl ?_
  cases hzz17
  exact ai.nil ⟨_,rfl,(ah.put (ah.push rfl (ah.push rfl (ah.push rfl (ah.push rfl (ah.put (.refl _) (Less.eq (by rw [hB16]))))))) (.refl _))⟩
 refine ai.val rfl (aa rfl) rfl ?_
 obtain ⟨z20,hzz20,h⟩:=bind_some h
 refine ai.bE 8 50 (.d (.bool z20)) ?_ ?_
 ·
  rcases Bool.eq_false_or_eq_true (z17) with hB19 | hB19
  ·
   refine ai.bool hB19 ?_
   refine ai.no rfl rfl ?_
   refine ai.no rfl rfl ?_
   refine ai.no rfl rfl ?_
   refine ai.no rfl rfl ?_
   refine ai.no rfl rfl ?_
   refine ai.no rfl rfl ?_
   refine ai.no rfl rfl ?_
   refine ai.val rfl (av (b:=true) rfl rfl) rfl ?_
   replace hzz20:=bz hB19 hzz20
   cases hzz20
   exact ai.nil ⟨_,rfl,(ah.put (ah.push rfl (ah.push rfl (ah.push rfl (ah.push rfl (ah.push rfl (ah.push rfl (ah.push rfl (ah.put (.refl _) (Less.eq (by rw [hB19])))))))))) (.refl _))⟩
  refine ai.bool hB19 ?_
  replace hzz20:=bu hB19 hzz20
  refine ai.val rfl (aa rfl) rfl ?_
  refine ai.val rfl (aa rfl) rfl ?_
  refine ai.val rfl (ak rfl rfl gJ) rfl ?_
  refine ai.val rfl (aa rfl) rfl ?_
  refine ai.val rfl (aa rfl) rfl ?_
  obtain ⟨z21,hzz21,hzz20⟩:=bind_some hzz20
  refine ai.ret rfl (ay rfl rfl) (dK E _ _ _ _ hzz21 _ _ (au.eq (au.eq .nil))) rfl ?_
  refine ai.val rfl (ak rfl rfl (oO BZ)) rfl ?_
  refine ai.val rfl (av (b:=false) rfl rfl) rfl ?_
  cases hzz20
  exact ai.nil ⟨_,rfl,(ah.put (ah.push rfl (ah.push rfl (ah.push rfl (ah.push rfl (ah.push rfl (ah.push rfl (ah.push rfl (ah.put (.refl _) (Less.eq (by rw [hB19])))))))))) (.refl _))⟩
 refine ai.nil ?_
 refine aj.cond rfl (fun hb22=>?_) (fun hb22=>?_)
 ·
  replace h:=bz hb22 h
  refine aj.seq ?_
  refine aj.region E.obj rfl ?_
  refine ai.val rfl (ae rfl) rfl ?_
  refine ai.nil ?_
  have hr:=Option.some.inj h
  subst hr
  exact aj.ret ⟨_,rfl,rfl,dJ (au.eq .nil)⟩
 replace h:=bu hb22 h
 refine aj.skip ?_
 refine aj.seq ?_
 refine aj.region E.obj rfl ?_
 refine ai.val rfl (aa rfl) rfl ?_
 refine ai.val rfl (aa rfl) rfl ?_
 refine ai.val rfl (aO rfl nZ) rfl ?_
 refine ai.val rfl (vX rfl rfl) rfl ?_
 obtain ⟨z23,hzz23,h⟩:=bind_some h
 refine ai.val rfl (rV rfl rfl nE BP (fun z=>(Seg.len z).trans fD.symm) hzz23) rfl ?_
 refine ai.val rfl (ae rfl) rfl ?_
 refine ai.nil ?_
 refine aj.seq ?_
 refine aj.region E.obj rfl ?_
 refine ai.val rfl (aa rfl) rfl ?_
 obtain ⟨z24,hzz24,h⟩:=bind_some h
 refine ai.ret rfl (ay rfl rfl) (gI E _ _ _ hzz24 _ _ (au.eq .nil)) rfl ?_
 refine ai.val rfl (ae rfl) rfl ?_
 refine ai.nil ?_
 refine aj.seq ?_
 refine aj.region E.obj rfl ?_
 refine ai.val rfl (aa rfl) rfl ?_
 obtain ⟨z25,hzz25,h⟩:=bind_some h
 refine ai.ret rfl (ay rfl rfl) (dR E _ _ _ hzz25 _ _ (au.eq .nil)) rfl ?_
 refine ai.val rfl (aa rfl) rfl ?_
 refine ai.val rfl (aD rfl rfl) rfl ?_
 refine ai.val rfl (aD rfl rfl) rfl ?_
 refine ai.val rfl (ae rfl) rfl ?_
 refine ai.val rfl (ae rfl) rfl ?_
 refine ai.nil ?_
 refine aj.seq ?_
 refine aj.seq ?_
 refine aj.region E.obj rfl ?_
 refine ai.val rfl (aa rfl) rfl ?_
 obtain ⟨z26,hzz26,h⟩:=bind_some h
 refine ai.ret rfl (ay rfl rfl) (dO E _ _ _ hzz26 _ _ (au.eq .nil)) rfl ?_
 refine ai.val rfl (aa rfl) rfl ?_
 refine ai.val rfl (ak rfl rfl iG) rfl ?_
 refine ai.val rfl (ak rfl rfl (oO BZ)) rfl ?_
 refine ai.val rfl (aa rfl) rfl ?_
 obtain ⟨z28,hzz28,h⟩:=bind_some h
 refine ai.bE 5 73 (.d (.bool z28)) ?_ ?_
 ·
  rcases Bool.eq_false_or_eq_true ((!(z26 == (!(z24 == []))))) with hB27 | hB27
  ·
   refine ai.bool hB27 ?_
   refine ai.no rfl rfl ?_
   refine ai.no rfl rfl ?_
   refine ai.no rfl rfl ?_
   refine ai.no rfl rfl ?_
   refine ai.val rfl (av (b:=true) rfl rfl) rfl ?_
   replace hzz28:=bz hB27 hzz28
   cases hzz28
   exact ai.nil ⟨_,rfl,(ah.put (ah.push rfl (ah.push rfl (ah.push rfl (ah.push rfl (ah.put (.refl _) (Less.eq (by rw [hB27]))))))) (.refl _))⟩
  refine ai.bool hB27 ?_
  replace hzz28:=bu hB27 hzz28
  refine ai.val rfl (aa rfl) rfl ?_
  refine ai.val rfl (aa rfl) rfl ?_
  obtain ⟨z29,hzz29,hzz28⟩:=bind_some hzz28
  refine ai.ret rfl (ay rfl rfl) (dO E _ _ _ hzz29 _ _ (au.eq .nil)) rfl ?_
  refine ai.val rfl (ak rfl rfl (oO BZ)) rfl ?_
  refine ai.val rfl (av (b:=false) rfl rfl) rfl ?_
  cases hzz28
  exact ai.nil ⟨_,rfl,(ah.put (ah.push rfl (ah.push rfl (ah.push rfl (ah.push rfl (ah.put (.refl _) (Less.eq (by rw [hB27]))))))) (.refl _))⟩
 refine ai.val rfl (aa rfl) rfl ?_
 obtain ⟨z31,hzz31,h⟩:=bind_some h
 refine ai.bE 8 82 (.d (.bool z31)) ?_ ?_
 ·
  rcases Bool.eq_false_or_eq_true (z28) with hB30 | hB30
  ·
   refine ai.bool hB30 ?_
   refine ai.no rfl rfl ?_
   refine ai.no rfl rfl ?_
   refine ai.no rfl rfl ?_
   refine ai.no rfl rfl ?_
   refine ai.no rfl rfl ?_
   refine ai.no rfl rfl ?_
   refine ai.no rfl rfl ?_
   refine ai.val rfl (av (b:=true) rfl rfl) rfl ?_
   replace hzz31:=bz hB30 hzz31
   cases hzz31
   exact ai.nil ⟨_,rfl,(ah.put (ah.push rfl (ah.push rfl (ah.push rfl (ah.push rfl (ah.push rfl (ah.push rfl (ah.push rfl (ah.put (.refl _) (Less.eq (by rw [hB30])))))))))) (.refl _))⟩
  refine ai.bool hB30 ?_
  replace hzz31:=bu hB30 hzz31
  refine ai.val rfl (aa rfl) rfl ?_
  refine ai.val rfl (aa rfl) rfl ?_
  obtain ⟨z33,hzz33,hzz31⟩:=bind_some hzz31
  refine ai.bE 5 81 (.d (.bool z33)) ?_ ?_
  ·
   rcases Bool.eq_false_or_eq_true (z25.2) with hB32 | hB32
   ·
    refine ai.bool hB32 ?_
    replace hzz33:=bz hB32 hzz33
    refine ai.val rfl (aa rfl) rfl ?_
    refine ai.val rfl (aa rfl) rfl ?_
    obtain ⟨z34,hzz34,hzz33⟩:=bind_some hzz33
    refine ai.ret rfl (ay rfl rfl) (dK E _ _ _ _ hzz34 _ _ (au.eq (au.eq .nil))) rfl ?_
    refine ai.val rfl (bH rfl) rfl ?_
    refine ai.val rfl (av (b:=true) rfl rfl) rfl ?_
    cases hzz33
    exact ai.nil ⟨_,rfl,(ah.put (ah.push rfl (ah.push rfl (ah.push rfl (ah.push rfl (ah.put (.refl _) (Less.eq (by rw [hB32]))))))) (.refl _))⟩
   refine ai.bool hB32 ?_
   refine ai.no rfl rfl ?_
   refine ai.no rfl rfl ?_
   refine ai.no rfl rfl ?_
   refine ai.no rfl rfl ?_
   refine ai.val rfl (av (b:=false) rfl rfl) rfl ?_
   replace hzz33:=bu hB32 hzz33
   cases hzz33
   exact ai.nil ⟨_,rfl,(ah.put (ah.push rfl (ah.push rfl (ah.push rfl (ah.push rfl (ah.put (.refl _) (Less.eq (by rw [hB32]))))))) (.refl _))⟩
  refine ai.val rfl (av (b:=false) rfl rfl) rfl ?_
  cases hzz31
  exact ai.nil ⟨_,rfl,(ah.put (ah.push rfl (ah.push rfl (ah.push rfl (ah.put (.refl _) (Less.eq (by rw [hB30])))))) (.refl _))⟩
 refine ai.nil ?_
 refine aj.cond rfl (fun hb35=>?_) (fun hb35=>?_)
 ·
  replace h:=bz hb35 h
  refine aj.seq ?_
  refine aj.region E.obj rfl ?_
  refine ai.val rfl (ae rfl) rfl ?_
  refine ai.nil ?_
  have hr:=Option.some.inj h
  subst hr
  exact aj.ret ⟨_,rfl,rfl,dJ (au.eq .nil)⟩
 replace h:=bu hb35 h
 refine aj.skip ?_
 refine aj.seq ?_
 refine aj.region E.obj rfl ?_
 refine ai.val rfl (aa rfl) rfl ?_
 refine ai.val rfl (aa rfl) rfl ?_
 refine ai.val rfl (dA rfl (dx nV) rfl) rfl ?_
 refine ai.val rfl (vX rfl rfl) rfl ?_
 obtain ⟨z36,hzz36,h⟩:=bind_some h
 refine ai.val rfl (lS rfl rfl nV hzz36) rfl ?_
 refine ai.val rfl (ae rfl) rfl ?_
 refine ai.nil ?_
 refine aj.seq ?_
 refine aj.region E.obj rfl ?_
 refine ai.val rfl (aa rfl) rfl ?_
 obtain ⟨z37,hzz37,h⟩:=bind_some h
 refine ai.ret rfl (ay rfl rfl) (dR E _ _ _ hzz37 _ _ (au.eq .nil)) rfl ?_
 refine ai.val rfl (aa rfl) rfl ?_
 refine ai.val rfl (aD rfl rfl) rfl ?_
 refine ai.val rfl (aD rfl rfl) rfl ?_
 refine ai.val rfl (ae rfl) rfl ?_
 refine ai.val rfl (ae rfl) rfl ?_
 refine ai.nil ?_
 refine aj.seq ?_
 refine aj.region E.obj rfl ?_
 refine ai.val rfl (aa rfl) rfl ?_
 refine ai.val rfl (aa rfl) rfl ?_
 obtain ⟨z38,hzz38,h⟩:=bind_some h
 refine ai.ret rfl (ay rfl rfl) (gI E _ _ _ hzz38 _ _ (au.eq .nil)) rfl ?_
 refine ai.val rfl (aa rfl) rfl ?_
 refine ai.val rfl (ak rfl rfl gJ) rfl ?_
 refine ai.val rfl (aa rfl) rfl ?_
 refine ai.bE 3 101 (.d (.bool ((z38 == z36) && (!(z36 == []))))) ?_ ?_
 ·
  rcases Bool.eq_false_or_eq_true ((z38 == z36)) with hB39 | hB39
  ·
   refine ai.bool hB39 ?_
   refine ai.val rfl (aa rfl) rfl ?_
   refine ai.val rfl (ak rfl rfl iG) rfl ?_
   refine ai.val rfl (av (b:=true) rfl rfl) rfl ?_
   exact ai.nil ⟨_,rfl,(ah.put (ah.push rfl (ah.push rfl (ah.put (.refl _) (Less.eq (by rw [hB39]))))) (Less.eq (by rw [hB39]; rw [Bool.true_and])))⟩
  refine ai.bool hB39 ?_
  refine ai.no rfl rfl ?_
  refine ai.no rfl rfl ?_
  refine ai.val rfl (av (b:=false) rfl rfl) rfl ?_
  exact ai.nil ⟨_,rfl,(ah.put (ah.push rfl (ah.push rfl (ah.put (.refl _) (Less.eq (by rw [hB39]))))) (Less.eq (by rw [hB39]; rw [Bool.false_and])))⟩
 refine ai.val rfl (ak rfl rfl (yn BZ)) rfl ?_
 refine ai.val rfl (aa rfl) rfl ?_
 refine ai.bE 7 110 (.d (.bool ((z37.2 == ((z38 == z36) && (!(z36 == [])))) && (z37.2 || (((z37.1).length:Int) == 0))))) ?_ ?_
 ·
  rcases Bool.eq_false_or_eq_true ((z37.2 == ((z38 == z36) && (!(z36 == []))))) with hB40 | hB40
  ·
   refine ai.bool hB40 ?_
   refine ai.val rfl (aa rfl) rfl ?_
   refine ai.val rfl (aa rfl) rfl ?_
   refine ai.bE 4 109 (.d (.bool (z37.2 || (((z37.1).length:Int) == 0)))) ?_ ?_
   ·
    rcases Bool.eq_false_or_eq_true (z37.2) with hB41 | hB41
    ·
     refine ai.bool hB41 ?_
     refine ai.no rfl rfl ?_
     refine ai.no rfl rfl ?_
     refine ai.no rfl rfl ?_
     refine ai.val rfl (av (b:=true) rfl rfl) rfl ?_
     exact ai.nil ⟨_,rfl,(ah.put (ah.push rfl (ah.push rfl (ah.push rfl (ah.put (.refl _) (Less.eq (by rw [hB41])))))) (Less.eq (by rw [hB41]; rw [Bool.true_or])))⟩
    refine ai.bool hB41 ?_
    refine ai.val rfl (aa rfl) rfl ?_
    refine ai.val rfl (aO rfl nZ) rfl ?_
    refine ai.val rfl (ak rfl rfl dw) rfl ?_
    refine ai.val rfl (av (b:=false) rfl rfl) rfl ?_
    exact ai.nil ⟨_,rfl,(ah.put (ah.push rfl (ah.push rfl (ah.push rfl (ah.put (.refl _) (Less.eq (by rw [hB41])))))) (Less.eq (by rw [hB41]; rw [Bool.false_or])))⟩
   refine ai.val rfl (av (b:=true) rfl rfl) rfl ?_
   exact ai.nil ⟨_,rfl,(ah.put (ah.push rfl (ah.push rfl (ah.push rfl (ah.put (.refl _) (Less.eq (by rw [hB40])))))) (Less.eq (by rw [hB40]; rw [Bool.true_and])))⟩
  refine ai.bool hB40 ?_
  refine ai.no rfl rfl ?_
  refine ai.no rfl rfl ?_
  refine ai.no rfl rfl ?_
  refine ai.no rfl rfl ?_
  refine ai.no rfl rfl ?_
  refine ai.no rfl rfl ?_
  refine ai.val rfl (av (b:=false) rfl rfl) rfl ?_
  exact ai.nil ⟨_,rfl,(ah.put (ah.push rfl (ah.push rfl (ah.push rfl (ah.push rfl (ah.push rfl (ah.push rfl (ah.put (.refl _) (Less.eq (by rw [hB40]))))))))) (Less.eq (by rw [hB40]; rw [Bool.false_and])))⟩
 refine ai.val rfl (aa rfl) rfl ?_
 obtain ⟨z43,hzz43,h⟩:=bind_some h
 refine ai.bE 2 113 (.d (.bool z43)) ?_ ?_
 ·
  rcases Bool.eq_false_or_eq_true (((z37.2 == ((z38 == z36) && (!(z36 == [])))) && (z37.2 || (((z37.1).length:Int) == 0)))) with hB42 | hB42
  ·
   refine ai.bool hB42 ?_
   replace hzz43:=bz hB42 hzz43
   obtain ⟨z44,hzz44,hzz43⟩:=bind_some hzz43
   refine ai.ret rfl (ay rfl rfl) (jy E _  _ hzz44 _ _ .nil) rfl ?_
   refine ai.val rfl (av (b:=true) rfl rfl) rfl ?_
   cases hzz43
   exact ai.nil ⟨_,rfl,(ah.put (ah.push rfl (ah.put (.refl _) (Less.eq (by rw [hB42])))) (.refl _))⟩
  refine ai.bool hB42 ?_
  refine ai.no rfl rfl ?_
  refine ai.val rfl (av (b:=false) rfl rfl) rfl ?_
  replace hzz43:=bu hB42 hzz43
  cases hzz43
  exact ai.nil ⟨_,rfl,(ah.put (ah.push rfl (ah.put (.refl _) (Less.eq (by rw [hB42])))) (.refl _))⟩
 refine ai.val rfl (ae rfl) rfl ?_
 refine ai.nil ?_
 have hr:=Option.some.inj h
 subst hr
 exact aj.ret ⟨_,rfl,rfl,dJ (au.eq .nil)⟩
end
end Pr
end Go.Ev

namespace Go.Ev
namespace Pr
set_option linter.unusedVariables false
set_option linter.unusedSimpArgs false
theorem wQ {n:Int} (h0:-9223372036854775808 ≤ n) (h1:n ≤ 9223372036854775807):IntKind.wrap .i64 n=n:=Go.IntWalk.i64_in n ⟨h0,h1⟩
theorem uI {α:Type} (l:List α) (i:Nat):idx l (i:Int)=l[i]?:=by
 unfold idx
 rw [if_pos (by omega)]
 simp
theorem mi {α:Type} {l done rest:List α} {z:α} (h:l=done ++ z :: rest):idx l (done.length:Int)=some z:=by
 rw [uI,h]; simp
theorem yX {α:Type} (l:List α) {i:Int} (h0:0 ≤ i) (h1:i < l.length):∃ x,idx l i=some x∧x ∈ l∧l[i.toNat]? = some x:=by
 obtain ⟨j,rfl⟩:=Int.eq_ofNat_of_zero_le h0
 have hj:j < l.length:=by omega
 exact ⟨l[j],by rw [uI]; exact List.getElem?_eq_getElem hj,List.getElem_mem hj,by simp [hj]⟩
theorem xn {α:Type} {nb:Nat} {l ys:List α} (h:(l.length + ys.length) * nb ≤ bound):app nb l ys=some (l ++ ys):=by
 unfold app; rw [if_pos h]
theorem xU {k:IntKind} {a b:Int} (h:b ≠ 0):yQ k a b=some (a.tmod b):=by
 unfold yQ; rw [if_neg h]
theorem bnd:bound=70368744177664:=rfl
end Pr
end Go.Ev

namespace Go.Ev
namespace Pr
set_option linter.unusedVariables false
set_option linter.unusedSimpArgs false
theorem Dv {i N:Nat} (h:i < N) (hN:N ≤ 1000000000):IntKind.wrap .i64 ((i:Int) + 1)=((i + 1:Nat):Int):=by rw [wQ (by omega) (by omega)]; push_cast; rfl
end Pr
end Go.Ev

namespace Go.Ev
namespace Pr
set_option linter.unusedVariables false
set_option linter.unusedSimpArgs false
def letters:Str:=[97,98,99,100,101,102,103,104,105,106,107,108,109,110,111,112,113,114,115,116,117,118,119,120,121,122,48,49,50,51,52,53,54,55,56,57]
def gL (s:Str):Bool:=!(s == []) && decide ((s.length:Int) ≤ 16) && (Lib.trimS s letters == [])
theorem zf (n:Nat) (s:Str):gT n s=some (gL s):=by
 unfold gT gL
 by_cases h:(!(s == []) && decide ((s.length:Int) ≤ 16))=true
 ·
  have h':=h
  simp only [Bool.and_eq_true,decide_eq_true_eq] at h'
  have ht:iE n s letters=some (Lib.trimS s letters):=by
   unfold iE
   rw [if_pos ⟨by rw [bnd]; omega,by decide,by decide⟩]
  rw [if_pos h]
  show (Option.bind (iE n s letters) _).bind _=_
  rw [ht,h]; rfl
 ·
  rw [if_neg h]
  simp only [Bool.not_eq_true] at h
  rw [h]; rfl
def oV (x y:Seg):Bool:=y.Kind != 0 && y.Text == x.Text
theorem yg (p:Seg→Option Bool) (q:Seg→Bool) (hp:∀ t,p t=some (q t)) (a:List Seg) (hl:a.length < 1000000):∀ (rest done:List Seg) (f:Nat),a=done ++ rest→rest.length < f→∃ r,aI a p f (done.length:Int)=some r∧decide (0 ≤ r)=rest.any q
 | [],done,f + 1,h,hf=>by
  rw [aI,if_neg (by rw [decide_eq_true_eq,h]; simp)]
  exact ⟨_,rfl,rfl⟩
 | t :: rest,done,f + 1,h,hf=>by
  have hlen:a.length=done.length + rest.length + 1:=by rw [h]; simp; omega
  have hw:IntKind.wrap .i64 ((done.length:Int) + 1)=(((done ++ [t]).length:Nat):Int):=by rw [wQ (by omega) (by omega)]; simp
  rw [aI,if_pos (by rw [decide_eq_true_eq]; omega),mi h,Option.bind_some,hp,Option.bind_some]
  cases hq:q t with
  | true =>
   rw [if_pos rfl]
   exact ⟨_,rfl,by rw [List.any_cons,hq]; simp⟩
  | false =>
   rw [if_neg (by simp),hw]
   obtain ⟨r,h1,h2⟩:=yg p q hp a hl rest (done ++ [t]) f (by rw [h]; simp) (by simp at hf; omega)
   exact ⟨r,h1,by rw [List.any_cons,hq,h2]; rfl⟩
theorem vW {n:Nat} (p:Seg→Option Bool) (q:Seg→Bool) (hp:∀ t,p t=some (q t)) (a:List Seg) (hl:a.length < n) (hl2:a.length < 1000000):aS n a p=some (a.any q):=by
 unfold aS bM
 obtain ⟨r,h1,h2⟩:=yg p q hp a hl2 a [] n rfl hl
 rw [List.length_nil,show ((0:Nat):Int)=0 from rfl] at h1
 rw [h1,Option.bind_some,h2]
def nK (done:List Seg):List Seg→Bool
 | []=>true
 | x :: l=>gL x.Text && decide (0 ≤ x.Kind) && decide (x.Kind ≤ 3) && (decide (x.Kind < 2) || l.isEmpty) && !(x.Kind != 0 && done.any (oV x)) && nK (done ++ [x]) l
def eP (l:List Seg):Bool:=decide (l.length ≤ 8) && nK [] l
theorem xV {n:Nat} (a:List Seg) (ha:a.length ≤ 8) (hn:100 ≤ n):∀ (rest done:List Seg) (f:Nat),a=done ++ rest→rest.length < f→bT n a f (done.length:Int)=some (nK done rest)
 | [],done,f + 1,h,hf=>by
  rw [bT,if_neg (by rw [decide_eq_true_eq,h]; simp)]; rfl
 | x :: rest,done,f + 1,h,hf=>by
  have hlen:a.length=done.length + rest.length + 1:=by rw [h]; simp; omega
  have hw:IntKind.wrap .i64 ((done.length:Int) + 1)=(((done ++ [x]).length:Nat):Int):=by rw [wQ (by omega) (by omega)]; simp
  have hw1:IntKind.wrap .i64 ((a.length:Int) - 1)=(a.length:Int) - 1:=wQ (by omega) (by omega)
  have hcut:cut a 0 (done.length:Int)=some done:=by
   unfold cut; rw [if_pos ⟨by omega,by omega,by omega⟩,h]; simp
  rw [bT,if_pos (by rw [decide_eq_true_eq]; omega),mi h,Option.bind_some,zf,Option.bind_some,hw1,nK]
  have e1:((done.length:Int) == (a.length:Int) - 1)=rest.isEmpty:=by
   cases rest with
   | nil=>simp at hlen ⊢; omega
   | cons y r=>simp at hlen ⊢; omega
  rw [e1,hcut]
  by_cases c1:gL x.Text=true
  ·
   by_cases c2:0 ≤ x.Kind
   ·
    by_cases c3:x.Kind ≤ 3
    ·
     rw [if_neg (by simp [c1]; omega)]
     by_cases c4:(decide (2 ≤ x.Kind) && !rest.isEmpty)=true
     ·
      rw [if_pos c4]
      simp only [Bool.and_eq_true,decide_eq_true_eq,Bool.not_eq_true'] at c4
      have:(decide (x.Kind < 2) || rest.isEmpty)=false:=by rw [c4.2]; simp; omega
      rw [this]; simp
     ·
      rw [if_neg c4]
      have c4':(decide (x.Kind < 2) || rest.isEmpty)=true:=by
       simp only [Bool.and_eq_true,decide_eq_true_eq,Bool.not_eq_true',not_and,Bool.not_eq_false,Bool.or_eq_true] at c4 ⊢
       by_cases q:x.Kind < 2
       ·
        exact .inl q
       ·
        exact .inr (c4 (by omega))
      have hin:(if (x.Kind != 0)=true then ((some done).bind fun z25=>((aS n z25 (fun y26=>eB n y26 x)).bind fun z27=>(some z27))) else some false)=some (x.Kind != 0 && done.any (oV x)):=by
       cases hk:(x.Kind != 0) with
       | false=>rfl
       | true =>
        rw [if_pos rfl,Option.bind_some,vW (n:=n) (fun y26=>eB n y26 x) (oV x) (fun t=>rfl) done (by omega) (by omega),Option.bind_some]; rfl
      rw [hin,Option.bind_some,c1,c4']
      cases hq:(x.Kind != 0 && done.any (oV x)) with
      | true=>simp
      | false =>
       rw [if_neg (by simp),hw]
       rw [xV a ha hn rest (done ++ [x]) f (by rw [h]; simp) (by simp at hf; omega)]
       simp [c2,c3]
    ·
     rw [if_pos (by simp; omega)]
     have:decide (x.Kind ≤ 3)=false:=by simpa using c3
     rw [this]; simp
   ·
    rw [if_pos (by simp; omega)]
    have:decide (0 ≤ x.Kind)=false:=by simpa using c2
    rw [this]; simp
  ·
   rw [if_pos (by simp [c1])]
   simp only [Bool.not_eq_true] at c1
   rw [c1]; simp
theorem qP {n:Nat} (hn:100 ≤ n) (a:List Seg):dh n a=some (eP a):=by
 unfold dh eP
 by_cases h:a.length ≤ 8
 ·
  rw [if_neg (by rw [decide_eq_true_eq]; omega)]
  have:=xV a h hn a [] n rfl (by omega)
  rw [List.length_nil,show ((0:Nat):Int)=0 from rfl] at this
  rw [this,decide_eq_true h]; rfl
 ·
  rw [if_pos (by rw [decide_eq_true_eq]; omega),decide_eq_false h]; rfl
def Names (l:List Seg):Prop:=l.Pairwise (fun s t=>¬(s.Kind ≠ 0∧t.Kind ≠ 0∧s.Text=t.Text))
theorem pX:∀ (l done:List Seg),nK done l=true↔(∀ x ∈ l,gL x.Text=true∧0 ≤ x.Kind∧x.Kind ≤ 3)∧(∀ pre x post,l=pre ++ x :: post→2 ≤ x.Kind→post=[])∧Names l∧(∀ x ∈ l,x.Kind ≠ 0→∀ y ∈ done,¬(y.Kind ≠ 0∧y.Text=x.Text))
 | [],done=>by simp [nK,Names]
 | x :: l,done=>by
  rw [nK,Bool.and_eq_true,pX l (done ++ [x])]
  simp only [Bool.and_eq_true,decide_eq_true_eq,Bool.or_eq_true,Bool.not_eq_true',List.isEmpty_iff,Names,List.pairwise_cons,List.mem_cons,List.mem_append,List.not_mem_nil,or_false]
  constructor
  ·
   rintro ⟨⟨⟨⟨⟨h1,h2⟩,h3⟩,h4⟩,h5⟩,h6,h7,h8,h9⟩
   refine ⟨?_,?_,⟨?_,h8⟩,?_⟩
   ·
    rintro y (rfl | hy)
    ·
     exact ⟨h1,h2,h3⟩
    ·
     exact h6 y hy
   ·
    intro pre y post e hk
    cases pre with
    | nil =>
     simp only [List.nil_append,List.cons.injEq] at e
     obtain ⟨rfl,rfl⟩:=e
     rcases h4 with q | q
     ·
      omega
     ·
      exact q
    | cons z pre =>
     simp only [List.cons_append,List.cons.injEq] at e
     exact h7 pre y post e.2 hk
   ·
    rintro y hy ⟨k1,k2,k3⟩
    exact h9 y hy k2 x (.inr rfl) ⟨k1,k3⟩
   ·
    rintro y (rfl | hy) hk z hz ⟨q1,q2⟩
    ·
     simp only [Bool.and_eq_false_iff,bne_eq_false_iff_eq,List.any_eq_false] at h5
     rcases h5 with h5 | h5
     ·
      exact hk h5
     ·
      exact h5 z hz (by simp [oV,q1,q2])
    ·
     exact h9 y hy hk z (.inl hz) ⟨q1,q2⟩
  ·
   rintro ⟨h1,h2,⟨h3,h4⟩,h5⟩
   have hx:=h1 x (.inl rfl)
   refine ⟨⟨⟨⟨⟨hx.1,hx.2.1⟩,hx.2.2⟩,?_⟩,?_⟩,fun y hy=>h1 y (.inr hy),fun pre y post e hk=>h2 (x :: pre) y post (by rw [e]; rfl) hk,h4,?_⟩
   ·
    by_cases q:x.Kind < 2
    ·
     exact .inl q
    ·
     exact .inr (h2 [] x l rfl (by omega))
   ·
    simp only [Bool.and_eq_false_iff,bne_eq_false_iff_eq,List.any_eq_false]
    by_cases q:x.Kind=0
    ·
     exact .inl q
    ·
     refine .inr (fun z hz=>?_)
     have:=h5 x (.inl rfl) q z hz
     simp only [oV,Bool.and_eq_true,bne_iff_ne,beq_iff_eq]
     exact this
   ·
    rintro y hy hk z (hz | rfl) ⟨q1,q2⟩
    ·
     exact h5 y (.inr hy) hk z hz ⟨q1,q2⟩
    ·
     exact h3 y hy ⟨q1,hk,q2⟩
theorem jm (l:List Seg):eP l=true↔l.length ≤ 8∧(∀ x ∈ l,gL x.Text=true∧0 ≤ x.Kind∧x.Kind ≤ 3)∧(∀ pre x post,l=pre ++ x :: post→2 ≤ x.Kind→post=[])∧Names l:=by
 unfold eP
 rw [Bool.and_eq_true,pX,decide_eq_true_eq]
 constructor
 ·
  rintro ⟨h1,h2,h3,h4,_⟩; exact ⟨h1,h2,h3,h4⟩
 ·
  rintro ⟨h1,h2,h3,h4⟩; exact ⟨h1,h2,h3,h4,fun _ _ _ _ h=>by cases h⟩
end Pr
end Go.Ev

namespace Go.Ev
namespace Pr
set_option linter.unusedVariables false
set_option linter.unusedSimpArgs false
theorem Ah {s:Str} (c:UInt8) (h:s.length ≤ 1000000):qy s (c.toNat:Int)=some (s ++ [c]):=by
 unfold qy
 have:=c.toNat_lt
 rw [if_pos ⟨by omega,by omega,by rw [bnd]; omega⟩]
 simp
theorem rf {c:UInt8}:∀ (x:Str),(∀ b ∈ x,b ≠ c)→cz c x=[x]
 | [],_=>rfl
 | b :: x,h=>by
  rw [cz,if_neg (by simpa using h b List.mem_cons_self),rf x (fun y hy=>h y (List.mem_cons_of_mem _ hy))]
theorem rY {c:UInt8}:∀ (x y:Str),(∀ b ∈ x,b ≠ c)→cz c (x ++ c :: y)=x :: cz c y
 | [],y,_=>by rw [List.nil_append,cz,if_pos (by simp)]
 | b :: x,y,h=>by
  rw [List.cons_append,cz,if_neg (by simpa using h b List.mem_cons_self),rY x y (fun z hz=>h z (List.mem_cons_of_mem _ hz))]
end Pr
end Go.Ev

namespace Go.Ev
namespace Pr
set_option linter.unusedVariables false
set_option linter.unusedSimpArgs false
end Pr
end Go.Ev

namespace Go.Ev
namespace Pr
set_option linter.unusedVariables false
set_option linter.unusedSimpArgs false
theorem o5 (n:Nat) (a lo hi:Int) (h1:lo ≤ hi) (h2:-1000000000000 ≤ lo) (h3:hi ≤ 1000000000000000):∃ r,bF n a lo hi=some r∧lo ≤ r∧r ≤ hi:=by
 unfold bF
 rw [wQ (n:=hi - lo) (by omega) (by omega),wQ (by omega) (by omega),xU (by omega),Option.bind_some]
 have k1:=Int.tmod_lt_of_pos a (show 0 < hi - lo + 1 by omega)
 have k2:=Int.lt_tmod_of_pos a (show 0 < hi - lo + 1 by omega)
 unfold cK
 by_cases hz:a.tmod (hi - lo + 1) < 0
 ·
  rw [if_pos (by simpa using hz)]
  rw [wQ (n:=a.tmod (hi - lo + 1) + hi) (by omega) (by omega),wQ (n:=a.tmod (hi - lo + 1) + hi - lo) (by omega) (by omega),wQ (n:=a.tmod (hi - lo + 1) + hi - lo + 1) (by omega) (by omega),wQ (by omega) (by omega)]
  exact ⟨_,rfl,by omega,by omega⟩
 ·
  rw [if_neg (by simpa using hz),wQ (by omega) (by omega)]
  exact ⟨_,rfl,by omega,by omega⟩
theorem zW (n:Nat) (l:List Int) (i:Int) (h:0 ≤ i):∃ r,dQ n l i=some r:=by
 unfold dQ
 by_cases h0:l.length=0
 ·
  rw [if_pos (by simp; exact List.eq_nil_of_length_eq_zero h0)]; exact ⟨_,rfl⟩
 ·
  rw [if_neg (by simp; intro q; exact h0 (by rw [q]; rfl)),xU (by omega),Option.bind_some]
  have hp:(0:Int) < (l.length:Int):=by omega
  obtain ⟨x,hx,_⟩:=yX l (i:=i.tmod l.length) (Int.tmod_nonneg _ h) (Int.tmod_lt_of_pos _ hp)
  exact ⟨x,by rw [hx]; rfl⟩
theorem AJ {a b:Str} (h:a.length + b.length ≤ 100000):cat a b=some (a ++ b):=by unfold cat; rw [if_pos (by omega)]
def zN:List Str:=[[97],[98],[105,116,101,109],[122],[49],[108,105,115,116]]
def pn (i:Int):Str:=[112] ++ ([(IntKind.wrap .u8 (IntKind.wrap .i64 (48 + i)))]).map fun (n:Int)=>UInt8.ofNat n.toNat
def ug:Str:=[108,97,115,116]
def x8:Str:=[110,111,110,101]
def vw (i:Nat) (s:Seg):Prop:=s.Kind=0∧s.Text ∈ zN∨s.Kind=1∧s.Text=pn (i:Int)
def Body (l:List Seg):Prop:=∀ (i:Nat) (s:Seg),l[i]? = some s→vw i s
structure rD (l:List Seg):Prop where
 sp:∃ b t,l=b ++ t∧b.length ≤ 4∧Body b∧(t=[]∨∃ k,(k=2∨k=3)∧t=[Seg.mk k ug])
theorem Body.snoc {l:List Seg} (h:Body l) {s:Seg} (hs:vw l.length s):Body (l ++ [s]):=fun i x hx=>by
 by_cases q:i < l.length
 ·
  rw [List.getElem?_append_left q] at hx; exact h i x hx
 ·
  rw [List.getElem?_append_right (by omega)] at hx
  have:i - l.length=0:=by
   have:=(List.getElem?_eq_some_iff.1 hx).1
   simp at this; omega
  rw [this] at hx
  simp at hx; subst hx
  rw [show i=l.length by omega]; exact hs
theorem zR {n:Nat} (a:bq):∀ (r i k:Nat) (l:List Seg),i + r=min a.Kinds.length 4→r < k→l.length=i→Body l→∃ l',aH n a k l (i:Int)=some l'∧rD l'
 | 0,i,k + 1,l,hi,hk,hl,hb=>by
  rw [aH,if_neg (by simp only [Bool.and_eq_true,decide_eq_true_eq]; omega)]
  obtain ⟨z,hz,z1,z2⟩:=o5 n a.Last 0 5 (by omega) (by omega) (by omega)
  rw [hz,Option.bind_some]
  unfold bC
  by_cases c:((z == 2) || (z == 3))=true
  ·
   rw [if_pos c,xn (by rw [bnd]; simp; omega),Option.bind_some]
   simp only [Bool.or_eq_true,beq_iff_eq] at c
   exact ⟨_,rfl,⟨l,[Seg.mk z ug],rfl,by omega,hb,.inr ⟨z,c,rfl⟩⟩⟩
  ·
   rw [if_neg c]
   exact ⟨_,rfl,⟨l,[],by simp,by omega,hb,.inl rfl⟩⟩
 | r + 1,i,k + 1,l,hi,hk,hl,hb=>by
  have hii:i < a.Kinds.length:=by omega
  have h4:i < 4:=by omega
  obtain ⟨z,hz,z1,z2⟩:=o5 n a.Kinds[i] 0 1 (by omega) (by omega) (by omega)
  obtain ⟨p,hp⟩:=zW n a.Texts (i:Int) (by omega)
  have h6:IntKind.wrap .i64 ((([[97],[98],[105,116,101,109],[122],[49],[108,105,115,116]]:List Str).length:Int) - 1)=5:=by rw [wQ (by simp) (by simp)]; rfl
  obtain ⟨y,hy,y1,y2⟩:=o5 n p 0 5 (by omega) (by omega) (by omega)
  obtain ⟨t,ht,ht2,_⟩:=yX ([[97],[98],[105,116,101,109],[122],[49],[108,105,115,116]]:List Str) (i:=y) y1 (by simp; omega)
  rw [aH,if_pos (by simp only [Bool.and_eq_true,decide_eq_true_eq]; omega),uI,List.getElem?_eq_getElem hii,Option.bind_some,hz,Option.bind_some,hp,Option.bind_some,h6,hy,Option.bind_some,ht,Option.bind_some]
  have step:∀ x:Str,vw i (Seg.mk z x)→∃ l',aY l (i:Int) (aH n a k) z t x=some l'∧rD l':=fun x hx=>by
   unfold aY
   rw [xn (by rw [bnd]; simp; omega),Option.bind_some,Dv (N:=4) h4 (by omega)]
   exact zR a r (i + 1) k _ (by omega) (by omega) (by simp [hl]) (hb.snoc (by rw [hl]; exact hx))
  by_cases c:z=1
  ·
   rw [if_pos (by simpa using c),AJ (by simp),Option.bind_some]
   exact step _ (.inr ⟨c,rfl⟩)
  ·
   rw [if_neg (by simpa using c)]
   exact step _ (.inl ⟨by show z=0; omega,ht2⟩)
theorem yc {n:Nat} (hn:10 ≤ n) (a:bq):∃ l,bN n a=some l∧rD l:=by
 unfold bN
 exact zR a (min a.Kinds.length 4) 0 n [] (by omega) (by omega) rfl (fun i s h=>by simp at h)
set_option maxRecDepth 100000 in
theorem vQ:∀ t ∈ zN,gL t=true:=by decide +kernel
set_option maxRecDepth 100000 in
theorem zJ:∀ i ∈ List.range 5,gL (pn (i:Int))=true∧pn (i:Int) ≠ x8∧pn (i:Int) ≠ ug:=by decide +kernel
set_option maxRecDepth 100000 in
theorem rC:gL ug=true∧ug ≠ x8:=by decide +kernel
theorem Ay {a b:Nat} (ha:a < 5) (hb:b < 5) (h:pn (a:Int)=pn (b:Int)):a=b:=by
 have key:∀ i ∈ List.range 5,∀ j ∈ List.range 5,pn (i:Int)=pn (j:Int)→i=j:=by decide +kernel
 exact key a (List.mem_range.2 ha) b (List.mem_range.2 hb) h
theorem rD.right {l:List Seg} (h:rD l):eP l=true∧l.length ≤ 5∧∀ s ∈ l,s.Kind ≠ 0→s.Text ≠ x8:=by
 obtain ⟨b,t,rfl,hb,hB,ht⟩:=h.sp
 have hbs:∀ s ∈ b,∃ i,i < 4∧b[i]? = some s∧vw i s:=fun s hs=>by
  obtain ⟨i,hi⟩:=List.getElem?_of_mem hs
  have:=(List.getElem?_eq_some_iff.1 hi).1
  exact ⟨i,by omega,hi,hB i s hi⟩
 have hlow:∀ s ∈ b,gL s.Text=true∧0 ≤ s.Kind∧s.Kind < 2∧(s.Kind ≠ 0→s.Text ≠ x8∧s.Text ≠ ug):=fun s hs=>by
  obtain ⟨i,h1,h2,h3⟩:=hbs s hs
  rcases h3 with ⟨k,q⟩ | ⟨k,q⟩
  ·
   exact ⟨vQ _ q,by omega,by omega,fun x=>absurd k x⟩
  ·
   have:=zJ i (List.mem_range.2 (by omega))
   exact ⟨by rw [q]; exact this.1,by omega,by omega,fun _=>by rw [q]; exact this.2⟩
 have hnb:Names b:=by
  refine List.pairwise_iff_getElem.2 (fun i j hi hj hij=>?_)
  rintro ⟨k1,k2,k3⟩
  have e1:=hB i b[i] (List.getElem?_eq_getElem hi)
  have e2:=hB j b[j] (List.getElem?_eq_getElem hj)
  rcases e1 with ⟨e1,_⟩ | ⟨_,e1⟩
  ·
   exact k1 e1
  ·
   rcases e2 with ⟨e2,_⟩ | ⟨_,e2⟩
   ·
    exact k2 e2
   ·
    rw [e1,e2] at k3
    have:=Ay (by omega) (by omega) k3
    omega
 rcases ht with rfl | ⟨k,hk,rfl⟩
 ·
  rw [List.append_nil]
  refine ⟨(jm b).2 ⟨by omega,fun s hs=>⟨(hlow s hs).1,(hlow s hs).2.1,by have:=(hlow s hs).2.2.1; omega⟩,fun pre x post e hx=>?_,hnb⟩,by omega,fun s hs hx=>((hlow s hs).2.2.2 hx).1⟩
  have:=(hlow x (by rw [e]; simp)).2.2.1; omega
 ·
  refine ⟨(jm _).2 ⟨by simp; omega,fun s hs=>?_,fun pre x post e hx=>?_,?_⟩,by simp; omega,fun s hs hx=>?_⟩
  ·
   rcases List.mem_append.1 hs with hs | hs
   ·
    exact ⟨(hlow s hs).1,(hlow s hs).2.1,by have:=(hlow s hs).2.2.1; omega⟩
   ·
    simp at hs; subst hs
    exact ⟨rC.1,by show 0 ≤ k; omega,by show k ≤ 3; omega⟩
  ·
   rcases List.append_eq_append_iff.1 e with ⟨c,h1,h2⟩ | ⟨c,h1,h2⟩
   ·
    cases c with
    | nil=>simp at h2; exact h2.2
    | cons y c=>simp at h2
   ·
    cases c with
    | nil=>simp at h2; exact h2.2
    | cons y c =>
     simp only [List.cons_append,List.cons.injEq] at h2
     have:=(hlow x (by rw [h1,h2.1]; simp)).2.2.1; omega
  ·
   refine List.pairwise_append.2 ⟨hnb,by simp,fun s hs t ht=>?_⟩
   simp at ht; subst ht
   rintro ⟨k1,k2,k3⟩
   exact ((hlow s hs).2.2.2 k1).2 k3
  ·
   rcases List.mem_append.1 hs with hs | hs
   ·
    exact ((hlow s hs).2.2.2 hx).1
   ·
    simp at hs; subst hs; exact rC.2
end Pr
end Go.Ev

namespace Go.Ev
namespace Pr
set_option linter.unusedVariables false
set_option linter.unusedSimpArgs false
theorem yP {l:List UInt8} {p:UInt8→Bool} (h:l.dropWhile p=[]):∀ c ∈ l,p c=true:=by
 induction l with
 | nil=>intro c hc; cases hc
 | cons a l ih =>
  intro c hc
  rw [List.dropWhile_cons] at h
  split at h
  ·
   rename_i ha
   rcases List.mem_cons.1 hc with rfl | hc
   ·
    exact ha
   ·
    exact ih h c hc
  ·
   cases h
theorem zL {l:List UInt8} {p:UInt8→Bool}:∀ c ∈ l,p c=true∨c ∈ l.dropWhile p:=by
 induction l with
 | nil=>intro c hc; cases hc
 | cons a l ih =>
  intro c hc
  rw [List.dropWhile_cons]
  split
  ·
   rename_i ha
   rcases List.mem_cons.1 hc with rfl | hc
   ·
    exact .inl ha
   ·
    exact ih c hc
  ·
   exact .inr hc
theorem pq {s:Str} (h:gL s=true):s ≠ []∧s.length ≤ 16∧∀ c ∈ s,c ∈ letters:=by
 unfold gL at h
 simp only [Bool.and_eq_true,decide_eq_true_eq,Bool.not_eq_true'] at h
 obtain ⟨⟨h1,h2⟩,h3⟩:=h
 refine ⟨by simpa using h1,by omega,fun c hc=>?_⟩
 have h3:=eq_of_beq h3
 unfold Lib.trimS Lib.trimLeftS Lib.trimRightS at h3
 have h4:=yP h3
 rcases zL (l:=s.reverse) (p:=fun b=>letters.contains b) c (by simpa using hc) with q | q
 ·
  simpa using q
 ·
  have:=h4 c (by simpa using q)
  simpa using this
def jg (x:Seg):Str:=if x.Kind=0 then x.Text else if x.Kind=1 then 58 :: x.Text else if x.Kind=2 then 58 :: (x.Text ++ [63]) else 42 :: x.Text
def fZ (s:Str):Seg:=match s with
 | []=>Seg.mk 0 []
 | c :: t=>if c=42 then Seg.mk 3 t else if c=58 then (if t.getLast? = some 63 then Seg.mk 2 t.dropLast else Seg.mk 1 t) else Seg.mk 0 (c :: t)
theorem yj (t:Str):fZ (42 :: t)=Seg.mk 3 t:=rfl
theorem uQ (t:Str):fZ (58 :: t)=if t.getLast? = some 63 then Seg.mk 2 t.dropLast else Seg.mk 1 t:=rfl
theorem zh {c:UInt8} (t:Str) (h1:c ≠ 42) (h2:c ≠ 58):fZ (c :: t)=Seg.mk 0 (c :: t):=by unfold fZ; simp only []; rw [if_neg h1,if_neg h2]
theorem r9 (s:Str):jg (fZ s)=s:=by
 unfold fZ
 split
 ·
  rfl
 ·
  rename_i c t
  split
  ·
   rename_i h; subst h; rfl
  ·
   split
   ·
    rename_i h; subst h
    split
    ·
     rename_i hl
     have:t=t.dropLast ++ [63]:=by
      have hne:t ≠ []:=by intro q; rw [q] at hl; cases hl
      have:=List.dropLast_concat_getLast hne
      rw [List.getLast?_eq_some_getLast hne] at hl
      rw [Option.some.inj hl] at this
      exact this.symm
     show 58 :: (t.dropLast ++ [63])=58 :: t
     rw [← this]
    ·
     rfl
   ·
    rfl
theorem wN {x:Seg} (h:gL x.Text=true) (h0:0 ≤ x.Kind) (h3:x.Kind ≤ 3):fZ (jg x)=x:=by
 obtain ⟨h1,_,hl⟩:=pq h
 have bad:∀ c ∈ letters,c ≠ 42∧c ≠ 58∧c ≠ 63∧c ≠ 47:=by decide
 obtain ⟨k,t⟩:=x
 simp only at h1 hl h0 h3
 cases t with
 | nil=>exact absurd rfl h1
 | cons c t =>
  have hc:=bad c (hl c List.mem_cons_self)
  unfold jg
  simp only []
  by_cases k0:k=0
  ·
   rw [if_pos k0,zh _ hc.1 hc.2.1,k0]
  ·
   rw [if_neg k0]
   by_cases k1:k=1
   ·
    rw [if_pos k1,uQ,if_neg,k1]
    intro q
    have:=List.mem_of_getLast? q
    exact (bad _ (hl _ this)).2.2.1 rfl
   ·
    rw [if_neg k1]
    by_cases k2:k=2
    ·
     rw [if_pos k2,uQ,if_pos List.getLast?_concat,k2,List.dropLast_concat]
    ·
     rw [if_neg k2,yj]
     have:k=3:=by omega
     rw [this]
theorem jd {x:Seg} (h:gL x.Text=true):(∀ b ∈ jg x,b ≠ 47)∧jg x ≠ []∧(jg x).length ≤ 18:=by
 obtain ⟨h1,h2,hl⟩:=pq h
 have bad:∀ c ∈ letters,c ≠ 42∧c ≠ 58∧c ≠ 63∧c ≠ 47:=by decide
 have ht:∀ b ∈ x.Text,b ≠ 47:=fun b hb=>(bad b (hl b hb)).2.2.2
 unfold jg
 split
 ·
  exact ⟨ht,h1,by omega⟩
 ·
  split
  ·
   refine ⟨fun b hb=>?_,by simp,by simp; omega⟩
   rcases List.mem_cons.1 hb with rfl | hb
   ·
    decide
   ·
    exact ht b hb
  ·
   split
   ·
    refine ⟨fun b hb=>?_,by simp,by simp; omega⟩
    rcases List.mem_cons.1 hb with rfl | hb
    ·
     decide
    ·
     rcases List.mem_append.1 hb with hb | hb
     ·
      exact ht b hb
     ·
      rw [List.mem_singleton.1 hb]; decide
   ·
    refine ⟨fun b hb=>?_,by simp,by simp; omega⟩
    rcases List.mem_cons.1 hb with rfl | hb
    ·
     decide
    ·
     exact ht b hb
def dW (l:List Seg):Str:=l.flatMap fun x=>47 :: jg x
def fE (l:List Seg):Str:=if eP l=true then (if l=[] then [47] else dW l) else []
def fI (s:Str):List Seg × Bool:=if s=[47] then ([],true) else match s with
 | []=>([],false)
 | c :: r=>if c=47 then (if ((cz 47 r).map fZ).length ≤ 8∧eP ((cz 47 r).map fZ)=true then ((cz 47 r).map fZ,true) else ([],false)) else ([],false)
theorem qZ:∀ (x:Seg) (l:List Seg),(∀ y ∈ x :: l,gL y.Text=true)→cz 47 (jg x ++ dW l)=jg x :: l.map jg
 | x,[],h=>by rw [dW,List.flatMap_nil,List.append_nil]; exact rf _ (jd (h x List.mem_cons_self)).1
 | x,y :: l,h=>by
  rw [show dW (y :: l)=47 :: (jg y ++ dW l) by simp [dW]]
  rw [rY _ _ (jd (h x List.mem_cons_self)).1,qZ y l (fun z hz=>h z (List.mem_cons_of_mem _ hz))]
  rfl
theorem jY {l:List Seg} (h:eP l=true):fI (fE l)=(l,true):=by
 have hr:=(jm l).1 h
 unfold fE
 rw [if_pos h]
 cases l with
 | nil=>rfl
 | cons x l =>
  rw [if_neg (by simp)]
  have e:dW (x :: l)=47 :: (jg x ++ dW l):=by simp [dW]
  have hx:=jd (hr.2.1 x List.mem_cons_self).1
  have hne:dW (x :: l) ≠ [47]:=by
   rw [e]; intro q
   simp at q
   exact hx.2.1 q.1
  have hsp:(cz 47 (jg x ++ dW l)).map fZ=x :: l:=by
   rw [qZ x l (fun y hy=>(hr.2.1 y hy).1),List.map_cons,List.map_map,wN (hr.2.1 x List.mem_cons_self).1 (hr.2.1 x List.mem_cons_self).2.1 (hr.2.1 x List.mem_cons_self).2.2]
   congr 1
   have key:∀ (m:List Seg),(∀ y ∈ m,y ∈ x :: l)→m.map (fZ ∘ jg)=m:=by
    intro m
    induction m with
    | nil=>intro _; rfl
    | cons y m ih =>
     intro hm
     have hy:=hr.2.1 y (hm y List.mem_cons_self)
     rw [List.map_cons,ih (fun z hz=>hm z (List.mem_cons_of_mem _ hz)),Function.comp,wN hy.1 hy.2.1 hy.2.2]
   exact key l (fun y hy=>List.mem_cons_of_mem _ hy)
  unfold fI
  rw [if_neg hne,e]
  simp only [if_true,hsp]
  rw [if_pos ⟨hr.1,h⟩]
end Pr
end Go.Ev

import Derived.Test.YtbjneeknddapfaaPartB
import Derived.Shelf.Spec.SlicesInsertGrow
import Derived.Shelf.Strings.Builder1
import Derived.Shelf.Strings.OnBuilder
import Derived.Shelf.Strings.SplitShaped
import Derived.Shelf.Strings.SlTrimAscii
import Derived.Shelf.Small.Strs
import Derived.Shelf.Strings.Cut
import Derived.DataReads
import GoSem.ClaimChange
import Derived.WideShapes
import Derived.ChangeShapes
namespace Go.Ev
noncomputable section
open Go.Shelf Go.RowKit Go.Proofs
set_option linter.unusedVariables false
set_option linter.unusedSimpArgs false
theorem setCells_at:∀ (vs:List Value) (w:World) (b o:Nat) (arr:Array Value) (el:Nat) (fz:Nat × Nat),w.heap[b]? = some (.cells arr el fz) →
  (w.setCells b o vs).heap.size=w.heap.size∧(∀ c,c ≠ b→(w.setCells b o vs).heap[c]? = w.heap[c]?)∧(w.setCells b o vs).os=w.os∧(w.setCells b o vs).tape=w.tape∧(w.setCells b o vs).output=w.output ∧
   (w.setCells b o vs).heap[b]? = some (.cells (setAt arr.toList o vs).toArray el fz)
 | [],w,b,o,arr,el,fz,hb=>⟨rfl,fun _ _=>rfl,rfl,rfl,rfl,by simpa [setAt,World.setCells] using hb⟩
 | v :: vs,w,b,o,arr,el,fz,hb=>by
  have h1:(w.setCell ⟨b,o,none⟩ v).heap[b]? = some (.cells (arr.setIfInBounds o v) el fz):=by
   simp [World.setCell,Array.getElem?_modify,hb]
  obtain ⟨a1,a2,a3,a4,a5,a6⟩:=setCells_at vs (w.setCell ⟨b,o,none⟩ v) b (o + 1) _ el fz h1
  simp only [World.setCells]
  refine ⟨by rw [a1]; simp [World.setCell],fun c hc=>?_,a3,a4,a5,?_⟩
  ·
   rw [a2 c hc]
   simp [World.setCell,Array.getElem?_modify,Ne.symm hc]
  ·
   rw [a6]
   simp [setAt]
theorem tL {w:World} {need old e:Nat} (h:need ≤ 9223372036854775807):need ≤ grownCap w need old e∧grownCap w need old e ≤ 9223372036854775807:=by
 unfold grownCap
 simp only [Question.cut]
 have h2:(2:Nat) ^ 63=9223372036854775808:=by decide
 have h3:=Nat.mod_lt (w.tape w.drawn (.appendCap need old e)) (show 0 < 2 ^ 63 - need by omega)
 constructor <;> omega
def Gu (w:World) (b n c i m:Nat) (arr:Array Value) (el e3:Nat) (cs vs:List Value) (e:Ending) (w':World):Prop :=
 (w'.os=w.os∧w'.tape=w.tape∧w'.output=w.output) ∧
 ((n + m ≤ c∧e=.returned (.slice (some ⟨b,0,none⟩) (n + m) c)∧w'.heap.size=w.heap.size∧(∀ d,d ≠ b→w'.heap[d]? = w.heap[d]?) ∧
   ∃ arr',w'.heap[b]? = some (.cells arr' el (0,0))∧arr'.size=arr.size∧∀ (j:Nat) (v:Value),(cs.take i ++ vs ++ cs.drop i)[j]? = some v→arr'[j]? = some v) ∨
  (∃ nc arr',n + m ≤ nc∧nc ≤ 9223372036854775807∧e=.returned (.slice (some ⟨w.heap.size,0,none⟩) (n + m) nc)∧w'.heap.size=w.heap.size + 1∧(∀ d,d < w.heap.size→w'.heap[d]? = w.heap[d]?) ∧
   w'.heap[w.heap.size]? = some (.cells arr' e3 (0,0))∧arr'.size=nc∧∀ (j:Nat) (v:Value),(cs.take i ++ vs ++ cs.drop i)[j]? = some v→arr'[j]? = some v))
theorem xy {α:Type} (l cs vs:List α) (i m n:Nat) (hm:vs.length=m) (hn:cs.length=n) (hi:i ≤ n) (hl:n + m ≤ l.length) (h0:∀ (j:Nat) (v:α),j < i→cs[j]? = some v→l[j]? = some v) (j:Nat) (v:α)
  (h:(cs.take i ++ vs ++ cs.drop i)[j]? = some v):(setAt (setAt l (i + m) (cs.drop i)) i vs)[j]? = some v:=by
 have hlt:(cs.take i).length=i:=by simp; omega
 have hdl:(cs.drop i).length=n - i:=by simp; omega
 rw [dL _ _ _ _ (by rw [bU]; omega)]
 rw [List.getElem?_append,List.length_append,hlt,hm] at h
 by_cases h1:j < i + m
 ·
  rw [if_pos h1,List.getElem?_append,hlt] at h
  by_cases h2:j < i
  ·
   rw [if_pos h2,List.getElem?_take,if_pos h2] at h
   rw [if_neg (by omega),dL _ _ _ _ (by omega),if_neg (by omega)]
   exact h0 j v h2 h
  ·
   rw [if_neg h2] at h
   rw [if_pos (by omega)]; exact h
 ·
  rw [if_neg h1] at h
  have h3:j - (i + m) < (cs.drop i).length:=(List.getElem?_eq_some_iff.1 h).1
  rw [if_neg (by omega),dL _ _ _ _ (by omega),if_pos (by omega)]
  exact h
theorem Cb {α:Type} (l cs vs:List α) (i m n:Nat) (hm:vs.length=m) (hn:cs.length=n) (hi:i ≤ n) (hl:n + m ≤ l.length) (h0:∀ (j:Nat) (v:α),j < i→cs[j]? = some v→l[j]? = some v) (j:Nat) (v:α)
  (h:(cs.take i ++ vs ++ cs.drop i)[j]? = some v):(setAt (setAt l i vs) (i + m) (cs.drop i))[j]? = some v:=by
 have hlt:(cs.take i).length=i:=by simp; omega
 have hdl:(cs.drop i).length=n - i:=by simp; omega
 rw [dL _ _ _ _ (by rw [bU]; omega)]
 rw [List.getElem?_append,List.length_append,hlt,hm] at h
 by_cases h1:j < i + m
 ·
  rw [if_pos h1,List.getElem?_append,hlt] at h
  rw [if_neg (by omega),dL _ _ _ _ (by omega)]
  by_cases h2:j < i
  ·
   rw [if_pos h2,List.getElem?_take,if_pos h2] at h
   rw [if_neg (by omega)]
   exact h0 j v h2 h
  ·
   rw [if_neg h2] at h
   rw [if_pos (by omega)]; exact h
 ·
  rw [if_neg h1] at h
  have h3:j - (i + m) < (cs.drop i).length:=(List.getElem?_eq_some_iff.1 h).1
  rw [if_pos (by omega)]
  exact h
theorem Ad {P:Program} {ρ:Ren} (L:Lays2.n21 P ρ) {w:World} {b n c i vb voff m vc:Nat} {arr arr2:Array Value} {el el2:Nat} {cs vs:List Value}
  (hb:w.heap[b]? = some (.cells arr el (0,0))) (hvb:w.heap[vb]? = some (.cells arr2 el2 (0,0))) (hne:vb ≠ b) (hi:i ≤ n) (hm:0 < m) (hnc:n ≤ c) (hca:c ≤ arr.size) (hc63:c ≤ 9223372036854775807)
  (hbig:(n + m) * 8 ≤ 140737488355328) (hcl:cs.length=n) (hvl:vs.length=m) (hcs:∀ (j:Nat) (v:Value),cs[j]? = some v→arr[j]? = some v) (hvs:∀ (j:Nat) (v:Value),vs[j]? = some v→arr2[voff + j]? = some v)
  (h1c:∀ v ∈ cs,v.oneCell'=true) (h1v:∀ v ∈ vs,v.oneCell'=true) :
  Calls P (ρ.f 21) #[.slice (some ⟨b,0,none⟩) n c,.int .i64 i,.slice (some ⟨vb,voff,none⟩) m vc] w (Gu w b n c i m arr el (ρ.t 3) cs vs):=by
 have hbl:b < w.heap.size:=by
  rcases Nat.lt_or_ge b w.heap.size with q | q
  ·
   exact q
  ·
   rw [Array.getElem?_eq_none q] at hb; cases hb
 have gcs:∀ (j:Nat) (v:Value),cs[j]? = some v→w.cell? ⟨b,0 + j,none⟩=some v:=fun j v h=>by rw [Nat.zero_add,cell_of hb]; exact hcs j v h
 have gvs:∀ (j:Nat) (v:Value),vs[j]? = some v→w.cell? ⟨vb,voff + j,none⟩=some v:=fun j v h=>by rw [cell_of hvb]; exact hvs j v h
 have gsp:∀ (o j:Nat),o + j < arr.size→(w.cell? ⟨b,o + j,none⟩).isSome=true:=fun o j h=>by rw [cell_of hb,Array.getElem?_eq_getElem h]; rfl
 have gfz:∀ (o:Nat),w.frozen? ⟨b,o,none⟩=false:=fun o=>by simp [World.frozen?,hb]
 have gfz2:∀ (o:Nat),w.frozen? ⟨vb,o,none⟩=false:=fun o=>by simp [World.frozen?,hvb]
 have hsb:w.shape? b=some (el,arr.size):=by simp [World.shape?,hb]
 have hsv:w.shape? vb=some (el2,arr2.size):=by simp [World.shape?,hvb]
 by_cases hroom:n + m ≤ c
 ·
  by_cases hin:i < n
  ·
   refine (Proofs.Any2.slices_Insert_int_shift L b 0 n c i vb voff m vc cs vs w hin hm hroom hc63 hne hcl hvl gcs (fun j hj=>gsp 0 j (by omega)) (fun j _=>gfz _) gvs h1c h1v el2 el arr2.size arr.size hsv hsb (by omega) (gfz2 _) (gfz2 _)).mono (fun e w' q=>?_)
   obtain ⟨rfl,rfl⟩:=q
   obtain ⟨a1,a2,a3,a4,a5,a6⟩:=setCells_at (cs.drop i) w.drew b (0 + (i + m)) arr el (0,0) hb
   obtain ⟨b1,b2,b3,b4,b5,b6⟩:=setCells_at vs _ b (0 + i) _ el (0,0) a6
   simp only [Nat.zero_add] at *
   refine ⟨⟨b3.trans a3,b4.trans a4,b5.trans a5⟩,.inl ⟨hroom,rfl,b1.trans a1,fun d hd=>(b2 d hd).trans (a2 d hd),_,b6,by simp [bU],fun j v h=>?_⟩⟩
   simp only [List.getElem?_toArray]
   exact xy arr.toList cs vs i m n hvl hcl hi (by simp; omega) (fun j v _ h=>by simpa using hcs j v h) j v h
  ·
   have hin:i=n:=by omega
   subst hin
   refine (Proofs.Any2.slices_Insert_int_end_room L b 0 i c vb voff m vc vs w hm hroom hc63 hvl (fun j hj=>by rw [Nat.zero_add]; exact gsp i j (by omega)) (fun j _=>gfz _) gvs h1v).mono (fun e w' q=>?_)
   obtain ⟨rfl,rfl⟩:=q
   obtain ⟨a1,a2,a3,a4,a5,a6⟩:=setCells_at vs w b (0 + i) arr el (0,0) hb
   simp only [Nat.zero_add] at *
   refine ⟨⟨a3,a4,a5⟩,.inl ⟨hroom,rfl,a1,a2,_,a6,by simp [bU],fun j v h=>?_⟩⟩
   simp only [List.getElem?_toArray]
   have:=xy arr.toList cs vs i m i hvl hcl hi (by simp; omega) (fun j v _ h=>by simpa using hcs j v h) j v h
   rw [← hcl,List.drop_length] at this
   rw [← hcl]
   simpa [setAt] using this
 ·
  obtain ⟨g1,g2⟩:=tL (w:=w) (need:=n + m) (old:=c) (e:=ρ.t 3) (by omega)
  by_cases hin:i < n
  ·
   refine (Proofs.Any2.slices_Insert_int_grow L b 0 n c i vb voff m vc cs vs w hin hm hnc (by omega) hbig hcl hvl gcs gvs h1c h1v).mono (fun e w' q=>?_)
   obtain ⟨rfl,rfl⟩:=q
   generalize hrow:(cs.take i).toArray ++ Builtin.zeroCells (Value.int .i64 0).cells (n + m - i) ++ Builtin.zeroCells (Value.int .i64 0).cells (grownCap w (n + m) c (ρ.t 3) - (n + m))=ROW
   have hrs:ROW.size=grownCap w (n + m) c (ρ.t 3):=by
    rw [← hrow]; simp [gK,Value.cells]; omega
   have h0:(w.alloc (.cells ROW (ρ.t 3))).drew.heap[w.heap.size]? = some (.cells ROW (ρ.t 3) (0,0)):=heap_alloc_new w _
   obtain ⟨a1,a2,a3,a4,a5,a6⟩:=setCells_at vs (w.alloc (.cells ROW (ρ.t 3))).drew w.heap.size i ROW (ρ.t 3) (0,0) h0
   obtain ⟨b1,b2,b3,b4,b5,b6⟩:=setCells_at (cs.drop i) (((w.alloc (.cells ROW (ρ.t 3))).drew.setCells w.heap.size i vs).drew) w.heap.size (i + m) _ (ρ.t 3) (0,0) a6
   refine ⟨⟨b3.trans a3,b4.trans a4,b5.trans a5⟩,.inr ⟨_,_,g1,g2,rfl,?_,fun d hd=>?_,b6,by simp [bU,hrs],fun j v h=>?_⟩⟩
   ·
    rw [b1]; show ((w.alloc (.cells ROW (ρ.t 3))).drew.setCells w.heap.size i vs).heap.size=_; rw [a1]; show (w.alloc (.cells ROW (ρ.t 3))).heap.size=_; rw [size_alloc]
   ·
    rw [b2 d (by omega)]; show ((w.alloc (.cells ROW (ρ.t 3))).drew.setCells w.heap.size i vs).heap[d]? = _; rw [a2 d (by omega)]; exact heap_alloc_old w _ hd
   ·
    simp only [List.getElem?_toArray]
    refine Cb ROW.toList cs vs i m n hvl hcl hi (by simp [hrs]; omega) (fun j v hj h=>?_) j v h
    rw [← hrow]
    simp only [Array.toList_append,List.append_assoc]
    rw [List.getElem?_append_left (by simp; omega)]
    simpa [List.getElem?_take,hj] using h
  ·
   have hin:i=n:=by omega
   subst hin
   refine (Proofs.Any2.slices_Insert_int_end_grow L (some ⟨b,0,none⟩) i c vb voff m vc cs vs w hm hnc (by omega) hbig hcl hvl (fun q=>by cases q) (fun a ha j v h=>by cases ha; rw [iC]; exact gcs j v h) gvs h1v).mono (fun e w' q=>?_)
   obtain ⟨rfl,rfl⟩:=q
   refine ⟨⟨rfl,rfl,rfl⟩,.inr ⟨_,_,g1,g2,rfl,size_alloc w.drew _,fun d hd=>heap_alloc_old w.drew _ hd,heap_alloc_new w.drew _,by simp [gK,Value.cells,hcl,hvl]; omega,fun j v h=>?_⟩⟩
   rw [← hcl,List.take_length,List.drop_length,List.append_nil] at h
   have hlt:=(List.getElem?_eq_some_iff.1 h).1
   rw [Array.getElem?_append_left (by simpa using hlt)]
   simpa using h
theorem insert_nil {P:Program} {ρ:Ren} (L:Lays2.n21 P ρ) {w:World} {vb voff m vc:Nat} {arr2:Array Value} {el2:Nat} {vs:List Value}
  (hvb:w.heap[vb]? = some (.cells arr2 el2 (0,0))) (hm:0 < m)
  (hbig:m * 8 ≤ 140737488355328) (hvl:vs.length=m) (hvs:∀ (j:Nat) (v:Value),vs[j]? = some v→arr2[voff + j]? = some v) (h1v:∀ v ∈ vs,v.oneCell'=true) :
  Calls P (ρ.f 21) #[.slice none 0 0,.int .i64 0,.slice (some ⟨vb,voff,none⟩) m vc] w fun e w'=>∃ nc rest,m ≤ nc∧nc ≤ 9223372036854775807∧rest.size=nc - m∧e=.returned (.slice (some ⟨w.heap.size,0,none⟩) m nc) ∧
   w'=w.drew.alloc (.cells (vs.toArray ++ rest) (ρ.t 3)):=by
 obtain ⟨g1,g2⟩:=tL (w:=w) (need:=0 + m) (old:=0) (e:=ρ.t 3) (by omega)
 have gvs:∀ (j:Nat) (v:Value),vs[j]? = some v→w.cell? ⟨vb,voff + j,none⟩=some v:=fun j v h=>by rw [cell_of hvb]; exact hvs j v h
 refine (Proofs.Any2.slices_Insert_int_end_grow L none 0 0 vb voff m vc [] vs w hm (Nat.le_refl _) (by omega) (by omega) rfl hvl (fun _=>rfl) (fun a ha=>by cases ha) gvs h1v).mono (fun e w' q=>?_)
 obtain ⟨rfl,rfl⟩:=q
 simp only [Nat.zero_add,List.nil_append] at *
 exact ⟨_,_,g1,g2,by simp [gK,Value.cells],rfl,rfl⟩
def lV (args:List AV) (S:St):Option (AV × St) :=
 match args with
 | [.dH id g off len lim sz,.d (.int k i),.dH id2 g2 off2 len2 lim2 sz2] =>
  match S.look id g,S.look id2 g2 with
  | some cs,some vs =>
   if off=0∧sz=1∧sz2=1∧k=.i64∧id2 ≠ id∧0 ≤ i∧i.toNat ≤ len∧len ≤ cs.length∧0 < len2∧off2 + len2 ≤ vs.length∧(len + len2) * 8 ≤ 140737488355328 then
    some (.dH id (g + 1) 0 (len + len2) (len + len2) 1,{ S with H:=S.H.set id (.cells (g + 1) ((cs.take len).take i.toNat ++ (vs.drop off2).take len2 ++ (cs.take len).drop i.toNat)) })
   else none
  | _,_=>none
 | [.d .aT,.d (.int k i),.dH id2 g2 off2 len2 lim2 sz2] =>
  match S.look id2 g2 with
  | some vs =>
   if sz2=1∧k=.i64∧i=0∧0 < len2∧off2 + len2 ≤ vs.length∧len2 * 8 ≤ 140737488355328 then
    some (.dH S.nx 0 0 len2 len2 1,(gW S ((vs.drop off2).take len2)).2)
   else none
  | none=>none
 | _=>none
theorem yo {R:bN} (hR:ObjOk R) {P:Program} {ρ:Ren} (L:Lays2.n21 P ρ) {args:List AV} {S S':St} {v:AV} (h:lV args S=some (v,S')) {cx:Cx} {w:World} {us:List Value} (hS:bf R cx S w)
  (hl:us.length=args.length) (hr:∀ (i:Nat) (x:AV) (u:Value),args[i]? = some x→us[i]? = some u→aN cx S w x u) :
  Calls P (ρ.f 21) us.toArray w (fun e w'=>∃ cx',bf R cx' S' w'∧Ext cx S w cx' S' w'∧∃ u,e=.returned u∧aN cx' S' w' v u):=by
 unfold lV at h
 split at h
 ·
  rename_i id g off len lim sz k i id2 g2 off2 len2 lim2 sz2
  split at h
  ·
   rename_i cs vs hlk hlk2
   split at h
   ·
    rename_i hc
    obtain ⟨rfl,rfl,rfl,rfl,hne,hi0,hil,hlc,hm,hov,hbig⟩:=hc
    simp only [Option.some.injEq,Prod.mk.injEq] at h
    obtain ⟨rfl,rfl⟩:=h
    match us,hl with
    | [u0,u1,u2],_ =>
    have r0:=hr 0 _ _ rfl rfl
    have r1:=hr 1 _ _ rfl rfl
    have r2:=hr 2 _ _ rfl rfl
    cases r1 with
    | d _ _ r1 =>
    have a1:=r1.val rfl; cases a1
    have hk:=jV hlk
    have hk2:=jV hlk2
    have hlive:cur S id=some g:=by simp [cur,hk]
    have hlive2:cur S id2=some g2:=by simp [cur,hk2]
    cases r0 with
    | dH _ _ _ _ _ _ b cap hn hll hcap h63 hp =>
    cases r2 with
    | dH _ _ _ _ _ _ b2 cap2 hn2 hll2 hcap2 h632 hp2 =>
    obtain ⟨rfl,p2,p3⟩:=hp hlive
    obtain ⟨rfl,q2,q3⟩:=hp2 hlive2
    obtain ⟨c1,c2,arr,el,c3,c4,c5⟩:=hS.cells id g cs hk
    obtain ⟨d1,d2,arr2,el2,d3,d4,d5⟩:=hS.cells id2 g2 vs hk2
    have hbne:cx.bm id2 ≠ cx.bm id:=fun q=>hne (hS.sep id2 id (cx.bm id) (by simp [live,hlive2]) (by simp [live,hlive]) ((d1 _).2 q.symm) ((c1 _).2 rfl))
    have pc:=nZ c4.2.2 c5 0 len (by omega)
    have pv:=nZ d4.2.2 d5 off2 len2 (by omega)
    simp only [List.drop_zero] at pc
    have hcV:(arr.toList.take len).length=len:=by simp; have:=c4.2.2; omega
    have hvV:((arr2.toList.drop off2).take len2).length=len2:=by simp; have:=d4.2.2; omega
    have pL:Pw (aN cx S w) ((cs.take len).take i.toNat ++ (vs.drop off2).take len2 ++ (cs.take len).drop i.toNat) ((arr.toList.take len).take i.toNat ++ (arr2.toList.drop off2).take len2 ++ (arr.toList.take len).drop i.toNat):=by
     refine Pw.append (Pw.append ?_ pv) ?_
     ·
      have:=pc.Js 0 i.toNat
      simpa using this
     ·
      have:=pc.Js i.toNat (len - i.toNat)
      have e1:((cs.take len).drop i.toNat).take (len - i.toNat)=(cs.take len).drop i.toNat:=List.take_of_length_le (by simp; omega)
      have e2:((arr.toList.take len).drop i.toNat).take (len - i.toNat)=(arr.toList.take len).drop i.toNat:=List.take_of_length_le (by rw [List.length_drop,hcV]; omega)
      rw [e1,e2] at this
      exact this
    have hLl:((cs.take len).take i.toNat ++ (vs.drop off2).take len2 ++ (cs.take len).drop i.toNat).length=len + len2:=by simp; omega
    generalize hLL:(cs.take len).take i.toNat ++ (vs.drop off2).take len2 ++ (cs.take len).drop i.toNat=LL at pL hLl ⊢
    generalize hVV:(arr.toList.take len).take i.toNat ++ (arr2.toList.drop off2).take len2 ++ (arr.toList.take len).drop i.toNat=VV at pL
    have hi:(Value.int .i64 i)=.int .i64 ((i.toNat:Nat):Int):=by rw [Int.toNat_of_nonneg hi0]
    rw [hi]
    have hcurn:cur { S with H:=S.H.set id (.cells (g + 1) LL) } id=some (g + 1):=by unfold cur; simp [AL.aO]
    have hnm:Names { S with H:=S.H.set id (.cells (g + 1) LL) } id (g + 1):=⟨hn.1,fun g' hg=>by rw [hcurn] at hg; simp at hg; omega⟩
    refine (Ad L (i:=i.toNat) (c:=cap) (voff:=off2) (vc:=cap2) c3 d3 hbne hil hm (by omega) (by rw [c4.1]; omega) h63 hbig hcV hvV (fun j v hj=>by
     rw [List.getElem?_take] at hj
     split at hj
     ·
      simpa using hj
     ·
      cases hj) (fun j v hj=>by
     rw [List.getElem?_take] at hj
     split at hj
     ·
      rw [List.getElem?_drop] at hj; simpa using hj
     ·
      cases hj) (fun v hv=>pc.2.1 v hv) (fun v hv=>pv.2.1 v hv)).mono (fun e w' hpost=>?_)
    obtain ⟨⟨o1,o2,o3⟩,hpost⟩:=hpost
    rw [hVV] at hpost
    rcases hpost with ⟨hfit,rfl,s1,s2,arr',s3,s4,s5⟩ | ⟨nc,arr',g1,g2,rfl,s1,s2,s3,s4,s5⟩
    ·
     let cx':Cx:={ cx with kE:=fun i=>if i=id then len + len2 else cx.kE i }
     obtain ⟨k1,k2⟩:=qZ hR (cx':=cx') (w':=w') (g':=g + 1) (cs':=LL) hS hk (by omega) (by omega) o1 o2 o3 (fun b _ hb=>s2 b hb) (fun _ _=>rfl) (fun _ _ _=>Iff.rfl) (fun i hi=>by simp [cx',hi]) (fun _ _=>rfl)
      (fun b hb=>.inl ((c1 b).1 hb)) (fun b o hf _=>hf) (fun b o hf=>hf) (fun b o hf=>by rw [s1]; exact hS.lt b o hf) (fun ext=>by
      refine ⟨c1,c2,arr',el,s3,⟨by rw [s4]; exact c4.1,by simp only [cx',if_true]; exact hLl,by rw [hLl,s4,c4.1]; omega⟩,fun j x hx=>?_⟩
      have hlt:j < VV.length:=by rw [pL.1]; exact (List.getElem?_eq_some_iff.1 hx).1
      have hu:=List.getElem?_eq_getElem hlt
      exact ⟨_,s5 j _ hu,(pL.2.2 j x _ hx hu).mono ext,pL.2.1 _ (List.getElem_mem hlt)⟩)
     exact ⟨cx',k1,k2,_,rfl,.dH id (g + 1) 0 (len + len2) (len + len2) _ _ cap hnm (Nat.le_refl _) hfit h63 (fun _=>⟨rfl,by simp only [cx',if_true,Nat.zero_add,Nat.mul_one]; exact hfit,p3⟩)⟩
    ·
     let cx':Cx:={ bm:=fun i=>if i=id then w.heap.size else cx.bm i,fp:=fun i b=>if i=id then b=w.heap.size else cx.fp i b,kE:=fun i=>if i=id then len + len2 else cx.kE i,tot:=fun i=>if i=id then nc else cx.tot i,fr:=fun b o=>b=w.heap.size∨cx.fr b o }
     obtain ⟨k1,k2⟩:=qZ hR (cx':=cx') (w':=w') (g':=g + 1) (cs':=LL) hS hk (by omega) (by omega) o1 o2 o3
      (fun b hb _=>s2 b hb) (fun i hi=>by simp [cx',hi]) (fun i hi b=>by simp [cx',hi]) (fun i hi=>by simp [cx',hi]) (fun i hi=>by simp [cx',hi])
      (fun b hb=>.inr (by simp only [cx',if_true] at hb; subst hb; omega))
      (fun b o hf hlt q=>q.elim (fun q=>absurd q (by omega)) (fun q=>hf q)) (fun b o hf=>.inr hf) (fun b o q=>by rw [s1]; exact q.elim (fun q=>by rw [q]; exact Nat.lt_succ_self _) (fun q=>Nat.lt_succ_of_lt (hS.lt b o q)))
      (fun ext=>by
      refine ⟨fun b=>by simp [cx'],fun o=>by simp [cx'],arr',_,by simp only [cx',if_true]; exact s3,⟨by simp only [cx',if_true]; exact s4,by simp only [cx',if_true]; exact hLl,by rw [s4,hLl]; exact g1⟩,fun j x hx=>?_⟩
      have hlt:j < VV.length:=by rw [pL.1]; exact (List.getElem?_eq_some_iff.1 hx).1
      have hu:=List.getElem?_eq_getElem hlt
      exact ⟨_,s5 j _ hu,(pL.2.2 j x _ hx hu).mono ext,pL.2.1 _ (List.getElem_mem hlt)⟩)
     exact ⟨cx',k1,k2,_,rfl,.dH id (g + 1) 0 (len + len2) (len + len2) _ _ nc hnm (Nat.le_refl _) g1 g2 (fun _=>⟨by simp [cx'],by simp only [cx',if_true,Nat.zero_add,Nat.mul_one]; exact g1,by simp only [cx',if_true,Nat.zero_add,Nat.mul_one]; exact Nat.le_refl _⟩)⟩
   ·
    cases h
  ·
   cases h
 ·
  rename_i k i id2 g2 off2 len2 lim2 sz2
  split at h
  ·
   rename_i vs hlk2
   split at h
   ·
    rename_i hc
    obtain ⟨rfl,rfl,rfl,hm,hov,hbig⟩:=hc
    simp only [Option.some.injEq,Prod.mk.injEq] at h
    obtain ⟨rfl,rfl⟩:=h
    match us,hl with
    | [u0,u1,u2],_ =>
    have r0:=hr 0 _ _ rfl rfl
    have r1:=hr 1 _ _ rfl rfl
    have r2:=hr 2 _ _ rfl rfl
    cases r0 with
    | d _ _ r0 =>
    cases r1 with
    | d _ _ r1 =>
    have a0:=r0.val rfl; cases a0
    have a1:=r1.val rfl; cases a1
    have hk2:=jV hlk2
    have hlive2:cur S id2=some g2:=by simp [cur,hk2]
    cases r2 with
    | dH _ _ _ _ _ _ b2 cap2 hn2 hll2 hcap2 h632 hp2 =>
    obtain ⟨rfl,q2,q3⟩:=hp2 hlive2
    obtain ⟨d1,d2,arr2,el2,d3,d4,d5⟩:=hS.cells id2 g2 vs hk2
    have pv:=nZ d4.2.2 d5 off2 len2 (by omega)
    have hvV:((arr2.toList.drop off2).take len2).length=len2:=by simp; have:=d4.2.2; omega
    refine (insert_nil L (voff:=off2) (vc:=cap2) d3 hm hbig hvV (fun j v hj=>by
     rw [List.getElem?_take] at hj
     split at hj
     ·
      rw [List.getElem?_drop] at hj; simpa using hj
     ·
      cases hj) (fun v hv=>pv.2.1 v hv)).mono (fun e w' hpost=>?_)
    obtain ⟨nc,rest,g1,g2,g3,rfl,rfl⟩:=hpost
    obtain ⟨hd1,hd2⟩:=mO hR hS
    obtain ⟨cx',k1,k2,k3⟩:=lT hR hd1 _ _ rest (ρ.t 3) len2 1 nc (pv.mono hd2) (by rw [← pv.1,hvV,Nat.mul_one]) g1 g2 (by rw [g3,Nat.mul_one])
    exact ⟨cx',k1,hd2.trans k2,_,rfl,k3⟩
   ·
    cases h
  ·
   cases h
 ·
  cases h
end
end Go.Ev

namespace Go.Ev
noncomputable section
open Go.Shelf Go.RowKit Go.Proofs
set_option linter.unusedVariables false
set_option linter.unusedSimpArgs false
structure IY (T e:Nat) (b:Nat) (p v:Value) (xs:List Value) (w:World):Prop where
 hp:p=.pointer none∨p=.pointer (some ⟨b,0,none⟩)
 blk:w.heap[b]? = some (.cells #[p,v] T (0,0))
 own:w.ownsRow 0 e 1 v xs.length xs
 ne:v.ownBlock ≠ some b
def Kept (w w':World) (b:Nat) (v:Value):Prop :=
 w'.os=w.os∧w'.tape=w.tape∧w'.output=w.output∧w.heap.size ≤ w'.heap.size∧∀ k,k < w.heap.size→k ≠ b→some k ≠ v.ownBlock→w'.heap[k]? = w.heap[k]?
end
end Go.Ev

namespace Go.Ev
noncomputable section
open Go.Shelf Go.RowKit Go.Proofs
set_option linter.unusedVariables false
set_option linter.unusedSimpArgs false
def Ii (T e:Nat) (k:Nat) (x:D) (w:World) (b:Nat) (F:Nat→Prop):Prop :=
 k=1∧∃ l p v,x=.str l∧IY T e b p v (Lib.byteCells l) w∧∀ c,F c↔(c=b∨v.ownBlock=some c)
def Jc (k:Nat) (w:World) (b:Nat) (F:Nat→Prop):Prop:=k=3∧b < w.heap.size∧∀ c,F c↔c=b
def Jz (T e:Nat) (G:World→(Nat→Nat→Prop)→Prop):bN:={ rel:=fun k x w b F=>Ii T e k x w b F∨Jc k w b F,G:=G }
def EG (G:World→(Nat→Nat→Prop)→Prop):Prop :=
 ∀ (w w':World) (fr fr':Nat→Nat→Prop),G w fr→(∀ (b o:Nat) (v:Value),¬ fr b o→w.cell? ⟨b,o,none⟩=some v→w'.cell? ⟨b,o,none⟩=some v∧¬ fr' b o)→G w' fr'
theorem DL {e:Nat} {v:Value} {n:Nat} {xs:List Value} {w w':World} (h:w.ownsRow 0 e 1 v n xs) (hk:∀ c,v.ownBlock=some c→w'.heap[c]? = w.heap[c]?):w'.ownsRow 0 e 1 v n xs:=by
 refine ⟨h.1,?_⟩
 rcases h.2 with q | ⟨g,cap,cur,rfl,q1,q2,q3⟩
 ·
  exact .inl q
 ·
  exact .inr ⟨g,cap,cur,rfl,q1,by rw [hk g rfl]; exact q2,q3⟩
theorem Jv {T e:Nat} {G:World→(Nat→Nat→Prop)→Prop} (hG:EG G):ObjOk (Jz T e G) where
 frame:=fun k x w w' b F h hF=>by
  rcases h with h | ⟨h1,h2,h3⟩
  ·
   obtain ⟨hk,l,p,v,hx,⟨h1,h2,h3,h4⟩,hf⟩:=h
   exact .inl ⟨hk,l,p,v,hx,⟨h1,by rw [hF b ((hf b).2 (.inl rfl))]; exact h2,DL h3 (fun c hc=>hF c ((hf c).2 (.inr hc))),h4⟩,hf⟩
  ·
   refine .inr ⟨h1,?_,h3⟩
   have:=hF b ((h3 b).2 rfl)
   rcases Nat.lt_or_ge b w'.heap.size with q | q
   ·
    exact q
   ·
    rw [Array.getElem?_eq_none q,Array.getElem?_eq_getElem h2] at this; cases this
 lt:=fun k x w b F h=>by
  rcases h with h | ⟨h1,h2,h3⟩
  ·
   obtain ⟨hk,l,p,v,hx,⟨h1,h2,h3,h4⟩,hf⟩:=h
   refine ⟨fun c hc=>?_,(hf b).2 (.inl rfl)⟩
   rcases (hf c).1 hc with rfl | hc
   ·
    rcases Nat.lt_or_ge c w.heap.size with q | q
    ·
     exact q
    ·
     rw [Array.getElem?_eq_none q] at h2; cases h2
   ·
    exact (h3.lt c hc).2
  ·
   exact ⟨fun c hc=>by rw [(h3 c).1 hc]; exact h2,(h3 b).2 rfl⟩
 it:=fun x w b F=>by
  constructor
  ·
   rintro (⟨h,_⟩ | ⟨_,h1,h2⟩)
   ·
    cases h
   ·
    exact ⟨h1,h2⟩
  ·
   rintro ⟨h1,h2⟩
   exact .inr ⟨rfl,h1,h2⟩
 stat:=hG
end
end Go.Ev

namespace Go.Ev
noncomputable section
open Go.Shelf Go.RowKit Go.Proofs
set_option linter.unusedVariables false
set_option linter.unusedSimpArgs false
abbrev Prim:=List AV→St→Option (AV × St)
structure Aa (R:bN) (P:Program) (f:Nat) (p:Prim):Prop where
 pure:∀ args S v S',p args S=some (v,S')→(lW args).isSome=true→(Ed v).isSome=true→∀ S2,p args S2=some (v,S2)
 calls:∀ args S v S',p args S=some (v,S')→(∃ fn,P.funcs[f]? = some fn∧fn.body.isSome=true∧fn.name ≠ "runtime.NumGoroutine") ∧
  ∀ cx w (us:List Value),bf R cx S w→us.length=args.length→(∀ (i:Nat) (x:AV) (u:Value),args[i]? = some x→us[i]? = some u→aN cx S w x u) →
  Calls P f us.toArray w (fun e w'=>∃ cx',bf R cx' S' w'∧Ext cx S w cx' S' w'∧∃ u,e=.returned u∧aN cx' S' w' v u)
theorem Iz {R:bN} (hR:ObjOk R) {P:Program} {ρ:Shelf.Ren} (L:Proofs.Lays2.n21 P ρ):Aa R P (ρ.f 21) lV where
 pure:=fun args S v S' h h1=>by
  exfalso
  unfold lV at h
  split at h
  ·
   simp [lW,yc] at h1
  ·
   simp [lW,yc] at h1
  ·
   cases h
 calls:=fun args S v S' h=>⟨⟨_,L.f21,rfl,by show ¬ ("slices.Insert[[]int,int]" = "runtime.NumGoroutine"); decide⟩,fun cx w us hS hl hr=>yo hR L h hS hl hr⟩
end
end Go.Ev

namespace Go.Ev
noncomputable section
open Go.Shelf Go.RowKit Go.Proofs
set_option linter.unusedVariables false
set_option linter.unusedSimpArgs false
end
end Go.Ev

namespace Go.Ev
noncomputable section
set_option linter.unusedVariables false
def KV:World→(Nat→Nat→Prop)→Prop:=fun _ _=>True
theorem J8:EG KV:=fun _ _ _ _ _ _=>trivial
end
end Go.Ev

namespace Go.Ev
noncomputable section
set_option linter.unusedVariables false
set_option linter.unusedSimpArgs false
def EO:Nat→Nat→Prop:=fun _ _=>False
structure xL (w:World) (ds:List D) (cs:List Value):Prop where
 len:cs.length=ds.length
 one:∀ v ∈ cs,v.oneCell'=true
 flat:∀ d ∈ ds,d.isAgg=false
 rel:∀ (i:Nat) (d:D) (v:Value),ds[i]? = some d→cs[i]? = some v→gu w EO d [v]
theorem xL.single {w:World} {d:D} {v:Value} (h:gu w EO d [v]) (ho:v.oneCell'=true) (hd:d.isAgg=false):xL w [d] [v] where
 len:=rfl
 one:=by simpa using ho
 flat:=by simpa using hd
 rel:=fun i d' v' h1 h2=>by
  cases i with
  | zero=>simp at h1 h2; subst h1; subst h2; exact h
  | succ i=>simp at h1
theorem xL.IW {w:World} {x:D} {cs:List Value} (h:xL w x.cells cs):gu w EO x cs:=by
 cases hx:x.isAgg with
 | true =>
  cases x <;> simp [D.isAgg] at hx
  rename_i xs
  exact .agg xs cs h.len h.one h.flat h.rel
 | false =>
  have hc:x.cells=[x]:=by cases x <;> simp_all [D.isAgg,D.cells]
  rw [hc] at h
  have hl:=h.len
  match cs,hl with
  | [v],_=>exact h.rel 0 x v rfl rfl
def yF (P:Program) (t:Nat) {α:Type} (enc:α→D) (wf:α→Prop):Prop :=
 ∀ {H:Type} (en:TypeId × Value→H) (w:World) (base:Nat) (sp:Nat→Bool) (held:Bool) (fuel:Nat) (cs:List Value) (d:DataW H) (p:List MemPlace),
  DataW.trod en P w base sp held fuel t cs=some (d,p)→∃ x,wf x∧xL w (enc x).cells cs
theorem yF.str {P:Program} {t:Nat} (hu:P.underlying t=some .string):yF P t D.str (fun s=>s.length ≤ maxLen):=by
 intro H en w base sp held fuel cs d p h
 cases fuel with
 | zero=>cases h
 | succ fuel =>
  simp only [DataW.trod,hu] at h
  split at h <;> first | (simp_all; done) | skip
  rename_i s heq
  split at h
  ·
   rename_i hc
   exact ⟨s.data.toList,by simpa using hc,.single (.str _) rfl rfl⟩
  ·
   cases h
theorem uB {w:World} {base:Nat} {a:Addr} {n:Nat} {cs:List Value} (h:w.cells? base a n=some cs):cs.length=n∧∀ j v,cs[j]? = some v→w.cell? (a.add j)=some v:=by
 unfold World.cells? at h
 split at h
 ·
  have hl:=mapM_some_length h
  refine ⟨by simpa using hl,fun j v hj=>?_⟩
  have hlt:j < n:=by have:=(List.getElem?_eq_some_iff.1 hj).1; rw [hl] at this; simpa using this
  have:=mapM_some_get h j j (by simp [hlt])
  rw [this,hj]
 ·
  cases h
theorem yF.slice {P:Program} {t e:Nat} {α:Type} {enc:α→D} {wf:α→Prop} (hu:P.underlying t=some (.slice e)) (he:yF P e enc wf) (hsz:∀ x,(enc x).cells.length=P.cellsOf e) (h0:0 < P.cellsOf e) :
  yF P t (JG enc) (fun l=>l.length ≤ maxLen∧∀ x ∈ l,wf x):=by
 intro H en w base sp held fuel cs d p h
 cases fuel with
 | zero=>cases h
 | succ fuel =>
  simp only [DataW.trod,hu] at h
  split at h <;> first | (simp_all; done) | skip
  ·
   exact ⟨[],⟨by simp,by simp⟩,.single (.sl0 none 0 false (fun h=>by cases h)) rfl rfl⟩
  ·
   rename_i e' a len cap heq
   simp only [Option.some.injEq,TypeDesc.slice.injEq] at heq
   subst heq
   split at h
   ·
    rename_i hc
    simp only [Option.bind_eq_some_iff] at h
    obtain ⟨els,hels,h⟩:=h
    have hl:=mapM_some_length hels
    have each:∀ i,i < len→∃ x ci,wf x∧w.cells? base (a.add (i * P.cellsOf e)) (P.cellsOf e)=some ci∧xL w (enc x).cells ci:=fun i hi=>by
     have hg:=mapM_some_get hels i i (by simp [hi])
     have hlt:i < els.length:=by rw [hl]; simpa using hi
     rw [List.getElem?_eq_getElem hlt,Option.bind_eq_some_iff] at hg
     obtain ⟨ci,h1,h2⟩:=hg
     obtain ⟨x,hx,hr⟩:=he en w base sp held fuel ci _ _ h2
     exact ⟨x,ci,hx,h1,hr⟩
    by_cases hz:len=0
    ·
     subst hz
     exact ⟨[],⟨by simp,by simp⟩,.single (.sl0 (some a) cap false (fun h=>by cases h)) rfl rfl⟩
    ·
     have hpos:0 < len:=by omega
     have hspot:a.spot=none:=by
      obtain ⟨x,ci,_,h1,_⟩:=each 0 hpos
      obtain ⟨l1,l2⟩:=uB h1
      have hne:0 < ci.length:=by omega
      have:=l2 0 ci[0] (List.getElem?_eq_getElem hne)
      unfold World.cell? at this
      split at this
      ·
       split at this
       ·
        cases this
       ·
        rename_i hs; cases hsp:a.spot with
        | none=>rfl
        | some q=>simp [Addr.add,hsp] at hs
      ·
       cases this
     have:Inhabited α:=⟨(each 0 hpos).choose⟩
     let f:Nat→α:=fun i=>if hi:i < len then (each i hi).choose else default
     let g:Nat→List Value:=fun i=>if hi:i < len then (each i hi).choose_spec.choose else []
     have hfg:∀ i,i < len→wf (f i)∧w.cells? base (a.add (i * P.cellsOf e)) (P.cellsOf e)=some (g i)∧xL w (enc (f i)).cells (g i):=fun i hi=>by
      have:=(each i hi).choose_spec.choose_spec
      simp only [f,g,hi,dif_pos]
      exact this
     let l:=(List.range len).map f
     have hll:l.length=len:=by simp [l]
     have hli:∀ i x,l[i]? = some x→i < len∧x=f i:=fun i x hx=>by
      simp only [l,List.getElem?_map,Option.map_eq_some_iff] at hx
      obtain ⟨j,hj,rfl⟩:=hx
      have:=List.getElem?_eq_some_iff.1 hj
      obtain ⟨h1,h2⟩:=this
      simp at h1 h2
      subst h2
      exact ⟨h1,rfl⟩
     refine ⟨l,⟨by rw [hll]; omega,fun x hx=>?_⟩,?_⟩
     ·
      obtain ⟨i,hi,rfl⟩:=List.getElem_of_mem hx
      obtain ⟨h1,h2⟩:=hli i _ (List.getElem?_eq_getElem hi)
      rw [h2]; exact (hfg i h1).1
     ·
      have ha:a=⟨a.block,a.off,none⟩:=by rw [← hspot]
      refine .single ?_ rfl rfl
      rw [ha]
      have hlm:(l.map enc).length=len:=by simp [hll]
      have key:gu w EO (.sl (l.map enc) false) [.slice (some ⟨a.block,a.off,none⟩) (l.map enc).length cap]:=by
       refine .sl (l.map enc) false a.block a.off cap (P.cellsOf e) g ?_ (by rw [hlm]; exact hc.2.1) (fun h=>by cases h) (fun i x hi=>?_) (fun i hi=>?_) (fun i x hi=>?_) (fun i j v hi hv=>?_)
       ·
        intro q; rw [q] at hlm; simp at hlm; omega
       ·
        rw [List.getElem?_map,Option.map_eq_some_iff] at hi
        obtain ⟨y,_,rfl⟩:=hi
        exact hsz y
       ·
        exact (uB (hfg i (by rw [hlm] at hi; exact hi)).2.1).1
       ·
        rw [List.getElem?_map,Option.map_eq_some_iff] at hi
        obtain ⟨y,hy,rfl⟩:=hi
        obtain ⟨h1,rfl⟩:=hli i y hy
        exact (hfg i h1).2.2.IW
       ·
        rw [hlm] at hi
        have:=(uB (hfg i hi).2.1).2 j v hv
        refine ⟨?_,fun q=>q⟩
        rw [← this]
        congr 1
        have hz:∀ (b:Addr) (m:Nat),b.spot=none→b.add m=⟨b.block,b.off + m,none⟩:=fun b m hb=>by
         obtain ⟨b1,b2,b3⟩:=b
         cases hb
         cases m <;> simp [Addr.add]
        rw [hz a _ hspot,hz _ j rfl]
      rw [hlm] at key
      exact key
   ·
    cases h
theorem Ju {P:Program} {t:Nat} {α:Type} {enc:α→D} {wf:α→Prop} (O:yF P t enc wf) (ha:∀ x,(enc x).isAgg=false)
  {H:Type} {en:TypeId × Value→H} {w:World} {base b0:Nat} {sp:Nat→Bool} {held:Bool} {v:Value} {d:DataW H} {p:List MemPlace} (hval:tO v=false) (hd:DataW.Trod en P w base sp held t v d p) :
  ∃ x,wf x∧bC w EO (enc x) v:=by
 obtain ⟨fuel,hf⟩:=hd
 obtain ⟨x,x1,x2⟩:=O en w base sp held fuel _ d p hf
 exact ⟨x,x1,x2.IW,by rw [hval]; exact ha x⟩
end
end Go.Ev

namespace Go.Ev
noncomputable section
set_option linter.unusedVariables false
set_option linter.unusedSimpArgs false
variable {R:bN} {C:fA} {P:Program}
theorem gZ.GX {f:Nat} {p:Prim} (h:Aa R P f p) {args:List AV} {S S':St} {v:AV} (hp:p args S=some (v,S')):gZ R P f args S (fun r=>r=(none,v,S')):=by
 obtain ⟨h1,h2⟩:=h.calls args S v S' hp
 refine ⟨h1,fun cx w us q1 q2 q3=>(h2 cx w us q1 q2 q3).mono (fun e w' ⟨cx',k1,k2,u,k3,k4⟩=>⟨_,rfl,cx',k1,k2,u,k3,k4⟩)⟩
theorem F5 (hR:ObjOk R) {f:Nat} {ds:List D} {x:D} (h:ib R P f ds (.d x)) (w:World) (hG:R.G w (fun _ _=>False)) (us:List Value) (hl:us.length=ds.length)
  (hr:∀ (i:Nat) (y:D) (u:Value),ds[i]? = some y→us[i]? = some u→bC w (fun _ _=>False) y u) :
  Calls P f us.toArray w (fun e w'=>∃ u,e=.returned u∧bC w' (fun _ _=>False) x u∧RowKit.Below w.heap.size w w'):=by
 let cx:Cx:={ bm:=fun _=>0,fp:=fun _ _=>False,kE:=fun _=>0,tot:=fun _=>0,fr:=fun _ _=>False }
 have hS:bf R cx aM w:=⟨fun id hl=>absurd rfl hl,fun id b hb=>by simp [aM,AL.get] at hb,fun id g cs hb=>by simp [aM,AL.get] at hb,fun id es hb=>by simp [aM,AL.get] at hb,
  fun id k x hb=>by simp [aM,AL.get] at hb,fun id en hb=>by simp [aM,AL.get] at hb,fun id id' b hl=>absurd rfl hl,fun b o q=>q.elim,hG⟩
 have h2:=(h (ds.map .d) aM ⟨ds,Cm ds,.refl ds⟩).2
 refine (h2 cx w us hS (by simp [hl]) (fun i y u hy hu=>?_)).mono (fun e w' he=>?_)
 ·
  simp only [List.getElem?_map,Option.map_eq_some_iff] at hy
  obtain ⟨z,hz,rfl⟩:=hy
  exact .d z u (hr i z u hz hu)
 ·
  obtain ⟨r,rfl,cx',k1,k2,k3⟩:=he
  obtain ⟨u,rfl,k3⟩:=k3
  obtain ⟨m1,m2,m3⟩:=yL hR hS k2
  exact ⟨u,rfl,m3 _ _ k3.dd,⟨m2.os,m2.tape,m2.output,m2.size,fun b hb=>(k2.other b hb (fun id hl=>absurd rfl hl)).1⟩⟩
end
end Go.Ev

namespace Go.Ev
noncomputable section
set_option linter.unusedVariables false
set_option linter.unusedSimpArgs false
variable {R:bN} {P:Program} {B:St}
theorem lh {S:St} {id:Nat}:live S id↔S.H.get id ≠ none∨S.T.get id ≠ none:=by
 unfold live cur
 cases hH:S.H.get id with
 | none=>simp
 | some b=>cases b <;> simp
def without (S:St) (ids:List Nat):St:=ids.foldl (fun S id=>{ S with H:=S.H.del id,T:=S.T.del id }) S
theorem oW:∀ (ids:List Nat) (S:St),(without S ids).nx=S.nx
 | [],S=>rfl
 | id :: l,S=>oW l { S with H:=S.H.del id,T:=S.T.del id }
theorem kP:∀ (ids:List Nat) (S:St) (k:Nat),(without S ids).H.get k=if k ∈ ids then none else S.H.get k
 | [],S,k=>by simp [without]
 | id :: l,S,k=>by
  show (without { S with H:=S.H.del id,T:=S.T.del id } l).H.get k=_
  rw [kP l]
  simp only [AL.wB]
  by_cases h1:k ∈ l
  ·
   simp [h1]
  ·
   by_cases h2:id=k
   ·
    subst h2; simp
   ·
    simp [h1,h2,Ne.symm h2]
theorem kU:∀ (ids:List Nat) (S:St) (k:Nat),(without S ids).T.get k=if k ∈ ids then none else S.T.get k
 | [],S,k=>by simp [without]
 | id :: l,S,k=>by
  show (without { S with H:=S.H.del id,T:=S.T.del id } l).T.get k=_
  rw [kU l]
  simp only [AL.wB]
  by_cases h1:k ∈ l
  ·
   simp [h1]
  ·
   by_cases h2:id=k
   ·
    subst h2; simp
   ·
    simp [h1,h2,Ne.symm h2]
theorem bA.there {S:St} {a:bA} (h:a.ok S):∀ id ∈ a.fp,S.H.get id ≠ none∨S.T.get id ≠ none:=fun id hid=>by
 cases a with
 | box i cs=>simp only [bA.fp,List.mem_singleton] at hid; subst hid; left; rw [show S.H.get id=_ from h]; simp
 | obj i k x=>simp only [bA.fp,List.mem_singleton] at hid; subst hid; left; rw [show S.H.get id=_ from h]; simp
 | map i m=>simp only [bA.fp,List.mem_singleton] at hid; subst hid; left; rw [show S.H.get id=_ from h]; simp
 | grow v xs =>
  cases v <;> simp only [bA.fp,List.not_mem_nil,List.mem_singleton] at hid
  subst hid
  right; rw [h.2.2.1]; simp
 | row sz v xs =>
  cases v <;> simp only [bA.fp,List.not_mem_nil,List.mem_singleton] at hid
  subst hid
  obtain ⟨cs,_,h8⟩:=h.2.2.2.2.2.2
  left; rw [h8]; simp
 | abs ids p=>obtain ⟨b,hb⟩:=h.1 id hid; left; rw [hb]; simp
theorem Has.frame {S:St} {l1 l2:List bA} (H:Has B S (l1 ++ l2)):∃ B',Has B' S l1∧∀ S' l1',Has B' S' l1'→(∀ id b,S'.H.get id=some b→S'.T.get id=none)→Has B S' (l1' ++ l2):=by
 let ids:=(l1.map bA.fp).flatten
 let B':=without S ids
 have hmem:∀ a ∈ l1,∀ id ∈ a.fp,id ∈ ids:=fun a ha id hid=>List.mem_flatten.2 ⟨_,List.mem_map.2 ⟨a,ha,rfl⟩,hid⟩
 have hnd:=H.nd
 rw [List.map_append,List.flatten_append,List.nodup_append] at hnd
 have hnot:∀ a ∈ l2,∀ id ∈ a.fp,id ∉ ids:=fun a ha id hid hq =>
  hnd.2.2 id hq id (List.mem_flatten.2 ⟨_,List.mem_map.2 ⟨a,ha,rfl⟩,hid⟩) rfl
 have hBids:∀ id ∈ ids,B.H.get id=none∧B.T.get id=none:=fun id hid=>by
  obtain ⟨gT,h1,h2⟩:=List.mem_flatten.1 hid
  obtain ⟨a,ha,rfl⟩:=List.mem_map.1 h1
  exact H.out a (List.mem_append_left _ ha) id h2
 have hwf:B'.Wf:=fun id hl=>by
  show id < B'.nx
  rw [oW]
  refine H.wf id (lh.2 ?_)
  rcases lh.1 hl with h | h
  ·
   rw [kP] at h
   split at h
   ·
    exact absurd rfl h
   ·
    exact .inl h
  ·
   rw [kU] at h
   split at h
   ·
    exact absurd rfl h
   ·
    exact .inr h
 refine ⟨B',⟨H.wf,fun a ha=>H.ok a (List.mem_append_left _ ha),hnd.1,hwf,⟨by rw [oW]; exact Nat.le_refl _,fun id b hb=>?_,fun id n hn=>?_⟩,fun a ha id hid=>?_⟩,fun S' l1' K hdis=>?_⟩
 ·
  rw [kP] at hb
  split at hb
  ·
   cases hb
  ·
   exact hb
 ·
  rw [kU] at hn
  split at hn
  ·
   cases hn
  ·
   exact hn
 ·
  have:=hmem a ha id hid
  rw [kP,kU,if_pos this,if_pos this]; exact ⟨rfl,rfl⟩
 ·
  have keepH:∀ id b,id ∉ ids→S.H.get id=some b→S'.H.get id=some b:=fun id b hn hb=>K.keeps.H id b (by rw [kP,if_neg hn]; exact hb)
  have keepT:∀ id n,id ∉ ids→S.T.get id=some n→S'.T.get id=some n:=fun id b hn hb=>K.keeps.T id b (by rw [kU,if_neg hn]; exact hb)
  have hok2:∀ a ∈ l2,a.ok S':=fun a ha=>by
   have hok:=H.ok a (List.mem_append_right _ ha)
   have hn:=hnot a ha
   cases a with
   | box id cs=>exact keepH _ _ (hn _ (by simp [bA.fp])) hok
   | obj id k x=>exact keepH _ _ (hn _ (by simp [bA.fp])) hok
   | map id m=>exact keepH _ _ (hn _ (by simp [bA.fp])) hok
   | grow v xs =>
    cases v with
    | tsl ys tok =>
     obtain ⟨h1,h2,h3,h4⟩:=hok
     have h3':=keepT _ _ (hn tok (by simp [bA.fp])) h3
     refine ⟨h1,h2,h3',?_⟩
     cases hb:S'.H.get tok with
     | none=>rfl
     | some b=>have:=hdis _ _ hb; rw [h3'] at this; cases this
    | d x=>cases x with
     | sl ys t=>cases t <;> exact hok
     | _=>exact hok
    | _=>exact hok
   | row sz v xs =>
    cases v with
    | dH id g off len lim sz' =>
     obtain ⟨h1,h2,h3,h4,h5,h6,cs,h7,h8⟩:=hok
     exact ⟨h1,h2,h3,h4,h5,h6,cs,h7,keepH _ _ (hn id (by simp [bA.fp])) h8⟩
    | d x=>cases x with
     | sl ys t=>cases ys <;> cases t <;> exact hok
     | _=>exact hok
    | _=>exact hok
   | abs ids' p=>exact bA.J9 hok (fun id b hid hb=>keepH _ _ (hn id hid) hb)
  refine ⟨K.wf,fun a ha=>?_,?_,H.bwf,⟨?_,fun id b hb=>?_,fun id n hn=>?_⟩,fun a ha id hid=>?_⟩
  ·
   rcases List.mem_append.1 ha with ha | ha
   ·
    exact K.ok a ha
   ·
    exact hok2 a ha
  ·
   rw [List.map_append,List.flatten_append,List.nodup_append]
   refine ⟨K.nd,hnd.2.1,fun a ha b hb hab=>?_⟩
   subst hab
   obtain ⟨gT,h1,h2⟩:=List.mem_flatten.1 ha
   obtain ⟨x,hx,rfl⟩:=List.mem_map.1 h1
   obtain ⟨gT,h3,h4⟩:=List.mem_flatten.1 hb
   obtain ⟨y,hy,rfl⟩:=List.mem_map.1 h3
   obtain ⟨o1,o2⟩:=K.out x hx a h2
   have hn:=hnot y hy a h4
   rw [kP,if_neg hn] at o1
   rw [kU,if_neg hn] at o2
   rcases bA.there (H.ok y (List.mem_append_right _ hy)) a h4 with q | q
   ·
    exact q o1
   ·
    exact q o2
  ·
   have:=K.keeps.nx
   rw [oW] at this
   exact Nat.le_trans H.keeps.nx this
  ·
   exact keepH id b (fun q=>by rw [(hBids id q).1] at hb; cases hb) (H.keeps.H id b hb)
  ·
   exact keepT id n (fun q=>by rw [(hBids id q).2] at hn; cases hn) (H.keeps.T id n hn)
  ·
   rcases List.mem_append.1 ha with ha | ha
   ·
    obtain ⟨o1,o2⟩:=K.out a ha id hid
    by_cases hq:id ∈ ids
    ·
     exact hBids id hq
    ·
     rw [kP,if_neg hq] at o1
     rw [kU,if_neg hq] at o2
     refine ⟨?_,?_⟩
     ·
      cases hb:B.H.get id with
      | none=>rfl
      | some b=>have:=H.keeps.H _ _ hb; rw [o1] at this; cases this
     ·
      cases hb:B.T.get id with
      | none=>rfl
      | some b=>have:=H.keeps.T _ _ hb; rw [o2] at this; cases this
   ·
    exact H.out a (List.mem_append_right _ ha) id hid
theorem Dp.gD {cx:Cx} {S2 S:St} {w:World} {p:Option AV} {v:AV} {e:Ending} (k:jL S2 S) (h:Dp cx S w p v e):Dp cx S2 w p v e:=by
 cases p with
 | none=>obtain ⟨u,h1,h2⟩:=h; exact ⟨u,h1,h2.gD k⟩
 | some p=>obtain ⟨u,h1,h2⟩:=h; exact ⟨u,h1,h2.gD k⟩
theorem Ext.zZ {cx cx':Cx} {S S' S2:St} {w w':World} (k:jL S2 S') (e:Ext cx S w cx' S' w'):Ext cx S w cx' S2 w' where
 size:=e.size
 os:=e.os
 tape:=e.tape
 output:=e.output
 nx:=by rw [k.nx]; exact e.nx
 prot:=e.prot
 other:=fun b hb hn=>e.other b hb (fun id hl hf=>by
  obtain ⟨h1,g,h2,h3⟩:=hn id hl hf
  exact ⟨h1,g,h2,k.isIt.1 h3⟩)
 own:=fun id b hl hf=>e.own id b (k.live.1 hl) hf
 back:=fun id g hid h=>e.back id g hid (k.isIt.1 h)
 keep:=fun id g b hid h0 h hf=>e.keep id g b hid h0 (k.isIt.1 h) hf
 curs:=fun id g hid hc=>e.curs id g hid (by rw [← k.cur]; exact hc)
theorem gZ.zZ {f:Nat} {args:List AV} {S:St} {Q:Out→Prop} (h:gZ R P f args S (fun o=>∃ S2,jL S2 o.2.2∧Q (o.1,o.2.1,S2))):gZ R P f args S Q :=
 ⟨h.1,fun cx w us h1 h2 h3=>(h.2 cx w us h1 h2 h3).mono fun e w' ⟨r,⟨S2,k,q⟩,cx',m1,m2,m3⟩=>⟨_,q,cx',m1.gD k,m2.zZ k,m3.gD k⟩⟩
def df (R:bN) (P:Program) (f:Nat) (args:List AV) (ins:List bA) (res:AV→List bA→Prop):Prop :=
 ∀ B S,Has B S ins→gZ R P f args S (fun o=>o.1=none∧∃ v l,Less v o.2.1∧res v l∧Has B o.2.2 l)
section
variable {C:fA} {nt:Nat}
theorem df.of_wp {f:Nat} {fn:Func} {c:Code} (hf:C.P.funcs[f]? = some fn) (hc:fn.body=some c) (hn:(fn.name == "runtime.NumGoroutine")=false) {args:List AV} (hle:Nat.ble args.length fn.ntmps=true) {ins:List bA} {res:AV→List bA→Prop}
  (h:∀ B S,Has B S ins→aB R C.P fn.ntmps c (qx 0 args) S (Im C fn (fun o=>o.1=none∧∃ v l S2,jL S2 o.2.2∧Less v o.2.1∧res v l∧Has B S2 l))):df R C.P f args ins res:=fun B S hB=>by
 refine gZ.zZ ((gZ.of_wp hf hc hn (Nat.le_of_ble_eq_true hle) (h B S hB)).mono fun o ho=>?_)
 obtain ⟨h1,v,l,S2,h2,h3,h4,h5⟩:=ho
 exact ⟨S2,h2,h1,v,l,h3,h4,h5⟩
section steps
variable {ops:Array Oper} {rest:List Oper} {e:Env} {S S':St} {Q:Stp→Prop} {l l':List bA} {t ty:Nat} {p:String} {af:Array Edge} {g:Option (Nat × Bool)} {x y:Operand} {v:AV}
theorem ai.fw {op:Op} {f:Nat} {args args':List AV} {ins more:List bA} {res:AV→List bA→Prop} (H:Has B S (ins ++ more)) (hw:bO ops e { dst:=some t,op:=op,type:=ty,pos:=p,after:=af,guard:=g }=some true) (ho:oper C (bK e) S op=some (.call f args)) (hs:df R C.P f args' ins res) (ha:fH args' args) (ht:Nat.blt t nt=true)
  (k:∀ v S' l',res v l'→Has B S' (l' ++ more)→ai R C nt ops rest ((t,v) :: e) S' Q) :
  ai R C nt ops ({ dst:=some t,op:=op,type:=ty,pos:=p,after:=af,guard:=g } :: rest) e S Q:=by
 obtain ⟨B',h1,h2⟩:=H.frame
 refine ai.one hw (.inr (.inr (.inl ⟨f,args,ho,((hs B' S h1).I1 ha).ru.mono fun r hr=>?_⟩)))
 obtain ⟨p,w,S'⟩:=r
 obtain ⟨⟨q1,v,l',q2,q3,q4⟩,hd⟩:=hr
 simp only at q1 q2 q3 q4 hd
 subst q1
 exact ⟨_,by simp only [Env.put,ht,cond_true],ai.weak (aj.top q2) (k v S' l' q3 (h2 S' l' q4 hd))⟩
end steps
end
theorem bz {C:fA} {ρ:Operand→Option AV} {S:St} {x:Operand} {i g o:Nat} (hx:ρ x=some (.ptr i g o)):oper C ρ S (.nilCheck x)=some (.val (.ptr i g o) S):=by simp only [oper,hx]
theorem Ab {P:Program} {t z i g o:Nat} (h:P.underlying t=some (.pointer z)):kH P t .eql (.ptr i g o) (.d .nilp)=some (.bool false):=by simp [kH,AV.eqv,h]
theorem kC {P:Program} {t z:Nat} (h:P.underlying t=some (.pointer z)):kH P t .eql (.d .nilp) (.d .nilp)=some (.bool true):=by simp [kH,AV.eqv,jW,h]
def Fe {α β:Type} (z:Option α) (a:Option β) (f:α→Option β):Option β:=match z with | none=>a | some x=>f x
theorem IZ {α β:Type} {a:Option β} {f:α→Option β} {r:β} (h:Fe none a f=some r):a=some r:=h
theorem Jq {α β:Type} {x:α} {a:Option β} {f:α→Option β} {r:β} (h:Fe (some x) a f=some r):f x=some r:=h
end
end Go.Ev

namespace Go.Ev
noncomputable section
set_option linter.unusedVariables false
set_option linter.unusedSimpArgs false
variable {R:bN} {P:Program} {B:St}
theorem wf_set {S:St} (h:S.Wf) {id:Nat} (hid:id < S.nx) (b:wu):St.Wf { S with H:=S.H.set id b }:=fun j hl=>by
 rcases lh.1 hl with q | q
 ·
  simp only [AL.aO] at q
  by_cases hj:id=j
  ·
   subst hj; exact hid
  ·
   rw [if_neg hj] at q; exact h j (lh.2 (.inl q))
 ·
  exact h j (lh.2 (.inr q))
theorem zx {S:St} (h:S.Wf) (b:wu):St.Wf (bQ S b):=fun j hl=>by
 show j < S.nx + 1
 rcases lh.1 hl with q | q
 ·
  simp only [bQ,AL.aO] at q
  by_cases hj:S.nx=j
  ·
   omega
  ·
   rw [if_neg hj] at q; have:=h j (lh.2 (.inl q)); omega
 ·
  have:=h j (lh.2 (.inr q)); omega
def gT (l:List bA):List Nat:=(l.map bA.fp).flatten
theorem pJ (a b:List bA):gT (a ++ b)=gT a ++ gT b:=by simp [gT]
theorem iK {l:List bA} {id:Nat}:id ∈ gT l↔∃ a ∈ l,id ∈ a.fp:=by
 unfold gT
 constructor
 ·
  intro h; obtain ⟨q,h1,h2⟩:=List.mem_flatten.1 h; obtain ⟨a,h3,rfl⟩:=List.mem_map.1 h1; exact ⟨a,h3,h2⟩
 ·
  rintro ⟨a,h1,h2⟩; exact List.mem_flatten.2 ⟨_,List.mem_map.2 ⟨a,h1,rfl⟩,h2⟩
theorem Has.upd {S S':St} {l0 l bs:List bA} (H:Has B S (l0 ++ l)) (wf:S'.Wf) (nx:S.nx ≤ S'.nx)
  (same:∀ j,j ∉ gT l0→j < S.nx→S'.H.get j=S.H.get j∧S'.T.get j=S.T.get j)
  (ok:∀ x ∈ bs,x.ok S') (nd:(gT bs).Nodup) (ids:∀ id ∈ gT bs,id ∈ gT l0∨S.nx ≤ id):Has B S' (bs ++ l):=by
 have hnd:(gT (l0 ++ l)).Nodup:=H.nd
 rw [pJ,List.nodup_append] at hnd
 have hlt:∀ a ∈ l,∀ id ∈ a.fp,id < S.nx:=fun a ha=>bA.lt H.wf (H.ok a (List.mem_append_right _ ha))
 have hout0:∀ id ∈ gT l0,B.H.get id=none∧B.T.get id=none:=fun id hid=>by
  obtain ⟨a,h1,h2⟩:=iK.1 hid
  exact H.out a (List.mem_append_left _ h1) id h2
 refine ⟨wf,fun a ha=>?_,?_,H.bwf,⟨Nat.le_trans H.keeps.nx nx,fun id b hb=>?_,fun id n hn=>?_⟩,fun a ha id hid=>?_⟩
 ·
  rcases List.mem_append.1 ha with ha | ha
  ·
   exact ok a ha
  ·
   have hn:∀ id ∈ a.fp,id ∉ gT l0:=fun id h1 h2=>hnd.2.2 id h2 id (iK.2 ⟨a,ha,h1⟩) rfl
   exact bA.keep (H.ok a (List.mem_append_right _ ha)) (fun id hid=>(same id (hn id hid) (hlt a ha id hid)).1) (fun id hid=>(same id (hn id hid) (hlt a ha id hid)).2)
 ·
  show (gT (bs ++ l)).Nodup
  rw [pJ,List.nodup_append]
  refine ⟨nd,hnd.2.1,fun x hx y hy hxy=>?_⟩
  subst hxy
  rcases ids x hx with h | h
  ·
   exact hnd.2.2 x h x hy rfl
  ·
   obtain ⟨a,h1,h2⟩:=iK.1 hy
   have:=hlt a h1 x h2
   omega
 ·
  have h1:id ∉ gT l0:=fun q=>by rw [(hout0 id q).1] at hb; cases hb
  have h2:id < S.nx:=Nat.lt_of_lt_of_le (H.bwf.H hb) H.keeps.nx
  rw [(same id h1 h2).1]; exact H.keeps.H _ _ hb
 ·
  have h1:id ∉ gT l0:=fun q=>by rw [(hout0 id q).2] at hn; cases hn
  have h2:id < S.nx:=Nat.lt_of_lt_of_le (H.bwf id (rV hn)) H.keeps.nx
  rw [(same id h1 h2).2]; exact H.keeps.T _ _ hn
 ·
  rcases List.mem_append.1 ha with ha | ha
  ·
   rcases ids id (iK.2 ⟨a,ha,hid⟩) with h | h
   ·
    exact hout0 id h
   ·
    have hn:=H.keeps.nx
    refine ⟨?_,?_⟩
    ·
     cases hB:B.H.get id with
     | none=>rfl
     | some b=>have:=H.bwf.H hB; omega
    ·
     cases hB:B.T.get id with
     | none=>rfl
     | some b=>have:=H.bwf id (rV hB); omega
  ·
   exact H.out a (List.mem_append_right _ ha) id hid
theorem Has.pF {S:St} {l0 l bs:List bA} (H:Has B S (l0 ++ l)) (ok:∀ x ∈ bs,x.ok S) (nd:(gT bs).Nodup) (ids:∀ id ∈ gT bs,id ∈ gT l0):Has B S (bs ++ l) :=
 H.upd H.wf (Nat.le_refl _) (fun _ _ _=>⟨rfl,rfl⟩) ok nd (fun id h=>.inl (ids id h))
theorem Has.nd0 {S:St} {l0 l:List bA} (H:Has B S (l0 ++ l)):(gT l0).Nodup:=by
 have hnd:(gT (l0 ++ l)).Nodup:=H.nd
 rw [pJ,List.nodup_append] at hnd
 exact hnd.1
theorem Has.lt {S:St} {l:List bA} (H:Has B S l) {id:Nat} (h:id ∈ gT l):id < S.nx:=by
 obtain ⟨a,h1,h2⟩:=iK.1 h
 exact bA.lt H.wf (H.ok a h1) id h2
def aP:AV→List Nat
 | .dH id _ _ _ _ _=>[id]
 | _=>[]
def iE (n:Int):AV:=.d (.int .i64 n)
def iw (w:AV) (ys:List Int) (S:St):Prop:=match w with
 | .d .aT=>ys=[]
 | .dH id g off len lim sz=>off=0∧sz=1∧len=ys.length∧0 < lim∧∃ cs,S.H.get id=some (.cells g cs)∧cs.length=lim∧cs.take len=ys.map iE
 | _=>False
def aG (w:AV) (ys:List Int):bA:=.abs (aP w) (iw w ys)
theorem iw.keep {w:AV} {ys:List Int} {S S':St} (h:iw w ys S) (k:∀ id ∈ aP w,S'.H.get id=S.H.get id):iw w ys S':=by
 unfold iw at *
 split at h
 ·
  exact h
 ·
  obtain ⟨h1,h2,h3,h4,cs,h5,h6⟩:=h
  exact ⟨h1,h2,h3,h4,cs,by rw [k _ (by simp [aP])]; exact h5,h6⟩
 ·
  exact h.elim
theorem iw.live {w:AV} {ys:List Int} {S:St} (h:iw w ys S):∀ id ∈ aP w,∃ b,S.H.get id=some b:=by
 unfold iw at h
 split at h
 ·
  intro id hid; simp [aP] at hid
 ·
  obtain ⟨h1,h2,h3,h4,cs,h5,h6⟩:=h
  intro id hid
  simp only [aP,List.mem_singleton] at hid
  subst hid; exact ⟨_,h5⟩
 ·
  exact h.elim
theorem fG {w:AV} {ys:List Int} {S:St}:(aG w ys).ok S↔iw w ys S :=
 ⟨fun h=>h.2 S (fun _ _=>rfl),fun h=>⟨h.live,fun S' k=>h.keep k⟩⟩
theorem iw.plain {w:AV} {ys:List Int} {S:St} (h:iw w ys S):w.plain=true∧w.cells=[w]:=by
 unfold iw at h
 split at h
 ·
  exact ⟨rfl,rfl⟩
 ·
  exact ⟨rfl,rfl⟩
 ·
  exact h.elim
theorem qP {S:St} {l:List bA} {i:Nat} {w:AV} {ys:List Int} (H:Has B S l) (hi:l[i]? = some (aG w ys)):w.plain=true∧w.cells=[w]:=(fG.1 (H.at hi)).plain
theorem Ae {S:St}:iw (.d .aT) [] S:=rfl
def jd (k:Nat) (ws:List AV):AV:=ws.getD k .any
def lg (sz k:Nat) (x:D) (ws:List AV):Prop:=x.cells.length=sz∧jK x.cells=true∧ws.length=sz∧fH ((x.cells.map AV.d).set k .any) ws
def bH (k:Nat):Option Nat→List (List AV)→List Nat
 | _,[]=>[]
 | some 0,_ :: l=>bH k none l
 | some (n + 1),ws :: l=>aP (jd k ws) ++ bH k (some n) l
 | none,ws :: l=>aP (jd k ws) ++ bH k none l
theorem iL {k:Nat}:∀ {wss:List (List AV)} {h:Option Nat} {id:Nat},id ∈ bH k h wss↔∃ i ws,wss[i]? = some ws∧h ≠ some i∧id ∈ aP (jd k ws)
 | [],h,id=>by simp [bH]
 | w :: l,none,id=>by
  simp only [bH,List.mem_append,iL (wss:=l)]
  constructor
  ·
   rintro (q | ⟨i,ws,h1,h2,h3⟩)
   ·
    exact ⟨0,w,rfl,by simp,q⟩
   ·
    exact ⟨i + 1,ws,h1,by simp,h3⟩
  ·
   rintro ⟨i,ws,h1,h2,h3⟩
   cases i with
   | zero=>simp at h1; subst h1; exact .inl h3
   | succ i=>exact .inr ⟨i,ws,by simpa using h1,by simp,h3⟩
 | w :: l,some 0,id=>by
  simp only [bH,iL (wss:=l)]
  constructor
  ·
   rintro ⟨i,ws,h1,h2,h3⟩; exact ⟨i + 1,ws,h1,by simp,h3⟩
  ·
   rintro ⟨i,ws,h1,h2,h3⟩
   cases i with
   | zero=>simp at h2
   | succ i=>exact ⟨i,ws,by simpa using h1,by simp,h3⟩
 | w :: l,some (n + 1),id=>by
  simp only [bH,List.mem_append,iL (wss:=l)]
  constructor
  ·
   rintro (q | ⟨i,ws,h1,h2,h3⟩)
   ·
    exact ⟨0,w,rfl,by simp,q⟩
   ·
    exact ⟨i + 1,ws,h1,by simpa using h2,h3⟩
  ·
   rintro ⟨i,ws,h1,h2,h3⟩
   cases i with
   | zero=>simp at h1; subst h1; exact .inl h3
   | succ i=>exact .inr ⟨i,ws,by simpa using h1,by simpa using h2,h3⟩
theorem jU {k:Nat}:∀ {wss:List (List AV)} {n:Nat} {ws:List AV},wss[n]? = some ws→(bH k none wss).Perm (aP (jd k ws) ++ bH k (some n) wss)
 | [],n,ws,h=>by simp at h
 | w :: l,0,ws,h=>by simp at h; subst h; exact List.Perm.refl _
 | w :: l,n + 1,ws,h=>by
  simp only [bH]
  have ih:=jU (k:=k) (wss:=l) (n:=n) (ws:=ws) (by simpa using h)
  refine (List.Perm.append_left _ ih).trans ?_
  rw [← List.append_assoc,← List.append_assoc]
  exact List.Perm.append_right _ List.perm_append_comm
theorem rU {k:Nat}:∀ {wss:List (List AV)} {n:Nat} {ws:List AV},bH k (some n) (wss.set n ws)=bH k (some n) wss
 | [],n,ws=>rfl
 | w :: l,0,ws=>rfl
 | w :: l,n + 1,ws=>by simp only [List.set_cons_succ,bH]; rw [rU]
theorem sF {k:Nat} (ws:List AV):∀ (wss:List (List AV)),bH k none (wss ++ [ws])=bH k none wss ++ aP (jd k ws)
 | []=>by simp [bH]
 | w :: l=>by simp only [List.cons_append,bH]; rw [sF ws l]; simp
theorem ny {k:Nat}:∀ {wss:List (List AV)} {n:Nat} {ws ws':List AV},wss[n]? = some ws→jd k ws'=jd k ws→∀ h,bH k h (wss.set n ws')=bH k h wss
 | [],n,ws,ws',h,e,o=>by simp at h
 | w :: l,0,ws,ws',h,e,o=>by
  simp at h; subst h
  cases o with
  | none=>simp only [List.set_cons_zero,bH,e]
  | some o=>cases o with
   | zero=>rfl
   | succ o=>simp only [List.set_cons_zero,bH,e]
 | w :: l,n + 1,ws,ws',h,e,o=>by
  have h:l[n]? = some ws:=by simpa using h
  cases o with
  | none=>simp only [List.set_cons_succ,bH]; rw [ny h e]
  | some o=>cases o with
   | zero=>simp only [List.set_cons_succ,bH]; rw [ny h e]
   | succ o=>simp only [List.set_cons_succ,bH]; rw [ny h e]
section
variable {α:Type} (enc:α→D) (kid:α→List Int) (sz k:Nat)
def j4 (v:AV) (wss:List (List AV)) (xs:List α) (hole:Option Nat) (S:St):Prop :=
 wss.length=xs.length∧k < sz∧(∀ i x ws,xs[i]? = some x→wss[i]? = some ws→lg sz k (enc x) ws∧(hole ≠ some i→iw (jd k ws) (kid x) S)) ∧
 match v with
 | .d .aT=>xs=[]
 | .dH id g off len lim sz'=>off=0∧len=xs.length∧lim=xs.length∧sz'=sz∧S.H.get id=some (.cells g wss.flatten)
 | _=>False
def ay (v:AV) (wss:List (List AV)) (xs:List α) (hole:Option Nat):bA:=.abs (aP v ++ bH k hole wss) (j4 enc kid sz k v wss xs hole)
end
section
variable {α:Type} {enc:α→D} {kid:α→List Int} {sz k:Nat} {v:AV} {wss:List (List AV)} {xs:List α} {hole:Option Nat} {S S':St}
theorem j4.keep (h:j4 enc kid sz k v wss xs hole S) (e:∀ id ∈ aP v ++ bH k hole wss,S'.H.get id=S.H.get id):j4 enc kid sz k v wss xs hole S':=by
 obtain ⟨h1,h2,h3,h4⟩:=h
 refine ⟨h1,h2,fun i x ws hx hw=>⟨(h3 i x ws hx hw).1,fun hn=>((h3 i x ws hx hw).2 hn).keep (fun id hid=>e id (List.mem_append_right _ (iL.2 ⟨i,ws,hw,hn,hid⟩)))⟩,?_⟩
 split
 ·
  exact h4
 ·
  obtain ⟨q1,q2,q3,q4,q5⟩:=h4
  exact ⟨q1,q2,q3,q4,by rw [e _ (List.mem_append_left _ (by simp [aP]))]; exact q5⟩
 ·
  rename_i hx1 hx2
  revert h4
  split
  ·
   exact (hx1 rfl).elim
  ·
   exact (hx2 _ _ _ _ _ _ rfl).elim
  ·
   exact id
theorem j4.live (h:j4 enc kid sz k v wss xs hole S):∀ id ∈ aP v ++ bH k hole wss,∃ b,S.H.get id=some b:=by
 obtain ⟨h1,h2,h3,h4⟩:=h
 intro id hid
 rcases List.mem_append.1 hid with hid | hid
 ·
  revert h4
  split
  ·
   simp [aP] at hid
  ·
   simp only [aP,List.mem_singleton] at hid
   subst hid
   exact fun q=>⟨_,q.2.2.2.2⟩
  ·
   exact fun q=>q.elim
 ·
  obtain ⟨i,ws,hw,hn,hq⟩:=iL.1 hid
  have hi:i < xs.length:=by rw [← h1]; exact (List.getElem?_eq_some_iff.1 hw).1
  exact ((h3 i _ ws (List.getElem?_eq_getElem hi) hw).2 hn).live id hq
theorem eQ:(ay enc kid sz k v wss xs hole).ok S↔j4 enc kid sz k v wss xs hole S :=
 ⟨fun h=>h.2 S (fun _ _=>rfl),fun h=>⟨h.live,fun S' e=>h.keep e⟩⟩
theorem j4.node (h:j4 enc kid sz k v wss xs hole S) {n:Nat} {x:α} (hx:xs[n]? = some x):∃ ws,wss[n]? = some ws∧lg sz k (enc x) ws∧(hole ≠ some n→iw (jd k ws) (kid x) S)∧∃ id g,v=.dH id g 0 xs.length xs.length sz∧S.H.get id=some (.cells g wss.flatten):=by
 obtain ⟨h1,h2,h3,h4⟩:=h
 have hn:n < wss.length:=by rw [h1]; exact (List.getElem?_eq_some_iff.1 hx).1
 have hw:=List.getElem?_eq_getElem hn
 obtain ⟨q1,q2⟩:=h3 n x _ hx hw
 refine ⟨_,hw,q1,q2,?_⟩
 revert h4
 split
 ·
  intro q; subst q; simp at hx
 ·
  rintro ⟨rfl,rfl,rfl,rfl,q⟩; exact ⟨_,_,rfl,q⟩
 ·
  exact fun q=>q.elim
def gX (k:Nat) (wss:List (List AV)) (n:Nat):AV:=jd k (wss.getD n [])
theorem wz {n:Nat} {ws:List AV} (h:wss[n]? = some ws):gX k wss n=jd k ws:=by
 unfold gX; rw [List.getD_eq_getElem?_getD,h]; rfl
theorem Has.take {l:List bA} (H:Has B S (ay enc kid sz k v wss xs none :: l)) {n:Nat} {x:α} (hx:xs[n]? = some x):Has B S (aG (gX k wss n) (kid x) :: ay enc kid sz k v wss xs (some n) :: l):=by
 have hp:=eQ.1 (H.ok _ List.mem_cons_self)
 obtain ⟨ws,hw,hq1,hq2,_⟩:=hp.node hx
 have hs:=hq2 (by simp)
 rw [wz hw]
 have hnd:(gT [ay enc kid sz k v wss xs none]).Nodup:=Has.nd0 (l0:=[_]) H
 have hnd:(aP v ++ bH k none wss).Nodup:=by simpa [gT,ay,bA.fp] using hnd
 have hperm:(aP (jd k ws) ++ (aP v ++ bH k (some n) wss)).Perm (aP v ++ bH k none wss):=by
  refine List.Perm.trans ?_ (List.Perm.append_left _ (jU hw).symm)
  rw [← List.append_assoc,← List.append_assoc]
  exact List.Perm.append_right _ List.perm_append_comm
 refine Has.pF (l0:=[_]) (bs:=[_,_]) H (fun a ha=>?_) ?_ (fun id hid=>?_)
 ·
  simp only [List.mem_cons,List.not_mem_nil,or_false] at ha
  rcases ha with rfl | rfl
  ·
   exact fG.2 hs
  ·
   refine eQ.2 ⟨hp.1,hp.2.1,fun i x ws h1 h2=>⟨(hp.2.2.1 i x ws h1 h2).1,fun _=>(hp.2.2.1 i x ws h1 h2).2 (by simp)⟩,hp.2.2.2⟩
 ·
  have:gT [aG (jd k ws) (kid x),ay enc kid sz k v wss xs (some n)]=aP (jd k ws) ++ (aP v ++ bH k (some n) wss):=by simp [gT,aG,ay,bA.fp]
  rw [this]; exact hperm.nodup_iff.2 hnd
 ·
  have e:gT [aG (jd k ws) (kid x),ay enc kid sz k v wss xs (some n)]=aP (jd k ws) ++ (aP v ++ bH k (some n) wss):=by simp [gT,aG,ay,bA.fp]
  rw [e] at hid
  have:=hperm.mem_iff.1 hid
  simpa [gT,ay,bA.fp] using this
theorem Has.IE {l:List bA} {n:Nat} {x:α} (H:Has B S (aG (gX k wss n) (kid x) :: ay enc kid sz k v wss xs (some n) :: l)) (hx:xs[n]? = some x):Has B S (ay enc kid sz k v wss xs none :: l):=by
 have hp:=eQ.1 (H.ok (ay enc kid sz k v wss xs (some n)) (by simp))
 have hs:=fG.1 (H.ok (aG (gX k wss n) (kid x)) (by simp))
 obtain ⟨ws,hw,hq1,_,_⟩:=hp.node hx
 rw [wz hw] at hs H
 have hnd:(gT [aG (jd k ws) (kid x),ay enc kid sz k v wss xs (some n)]).Nodup:=Has.nd0 (l0:=[_,_]) H
 have e:gT [aG (jd k ws) (kid x),ay enc kid sz k v wss xs (some n)]=aP (jd k ws) ++ (aP v ++ bH k (some n) wss):=by simp [gT,aG,ay,bA.fp]
 have e2:gT [ay enc kid sz k v wss xs none]=aP v ++ bH k none wss:=by simp [gT,ay,bA.fp]
 have hperm:(aP (jd k ws) ++ (aP v ++ bH k (some n) wss)).Perm (aP v ++ bH k none wss):=by
  refine List.Perm.trans ?_ (List.Perm.append_left _ (jU hw).symm)
  rw [← List.append_assoc,← List.append_assoc]
  exact List.Perm.append_right _ List.perm_append_comm
 refine Has.pF (l0:=[_,_]) (bs:=[_]) H (fun a ha=>?_) ?_ (fun id hid=>?_)
 ·
  simp only [List.mem_cons,List.not_mem_nil,or_false] at ha
  subst ha
  refine eQ.2 ⟨hp.1,hp.2.1,fun i y ws' h1 h2=>⟨(hp.2.2.1 i y ws' h1 h2).1,fun _=>?_⟩,hp.2.2.2⟩
  by_cases hi:n=i
  ·
   subst hi
   rw [h2] at hw; cases hw
   rw [h1] at hx; cases hx
   exact hs
  ·
   exact (hp.2.2.1 i y ws' h1 h2).2 (fun q=>hi (Option.some.inj q))
 ·
  rw [e2]; rw [e] at hnd; exact hperm.nodup_iff.1 hnd
 ·
  rw [e2] at hid; rw [e]; exact hperm.mem_iff.2 hid
end
end
end Go.Ev

namespace Go.Ev
noncomputable section
set_option linter.unusedVariables false
set_option linter.unusedSimpArgs false
variable {R:bN} {P:Program} {B:St}
theorem DR {sz:Nat}:∀ {wss:List (List AV)},(∀ ws ∈ wss,ws.length=sz)→∀ {n:Nat} {ws:List AV},wss[n]? = some ws→∃ a b,wss.flatten=a ++ ws ++ b∧a.length=n * sz∧∀ ws',(wss.set n ws').flatten=a ++ ws' ++ b:=by
 intro wss
 induction wss with
 | nil=>intro _ n ws h; simp at h
 | cons y l ih =>
  intro hs n ws h
  cases n with
  | zero =>
   simp at h; subst h
   exact ⟨[],l.flatten,by simp,by simp,fun d'=>by simp⟩
  | succ n =>
   obtain ⟨a,b,h1,h2,h3⟩:=ih (fun x hx=>hs x (List.mem_cons_of_mem _ hx)) (n:=n) (by simpa using h)
   refine ⟨y ++ a,b,by rw [List.flatten_cons,h1]; simp,?_,fun d'=>by rw [List.set_cons_succ,List.flatten_cons,h3]; simp⟩
   rw [List.length_append,h2,hs y List.mem_cons_self,Nat.add_mul,Nat.one_mul]; omega
theorem ze {k:Nat} {x:AV} (hx:∀ d,x ≠ .d d):∀ {l:List AV},l[k]? = some x→o7 l=none:=by
 intro l
 induction l generalizing k with
 | nil=>intro h; simp at h
 | cons y l ih =>
  intro h
  cases k with
  | zero =>
   simp at h; subst h
   cases y with
   | d d=>exact (hx d rfl).elim
   | _=>rfl
  | succ k =>
   have:=ih (k:=k) (by simpa using h)
   cases y <;> simp [o7,this]
theorem xw {l:List AV} (h:o7 l=none):Ev.eY l=.agg l:=by unfold Ev.eY; rw [h]
theorem GI (l:List D):Ev.eY (l.map AV.d)=.d (.agg l):=by
 unfold Ev.eY
 have:o7 (l.map AV.d)=some l:=by
  induction l with
  | nil=>rfl
  | cons x l ih=>simp [o7,ih]
 rw [this]
def Jf (x:AV):Prop:=x=.d .aT∨∃ id g off len lim sz,x=.dH id g off len lim sz
theorem iw.kw {w:AV} {ys:List Int} {S:St} (h:iw w ys S):Jf w:=by
 unfold iw at h
 split at h
 ·
  exact .inl rfl
 ·
  exact .inr ⟨_,_,_,_,_,_,rfl⟩
 ·
  exact h.elim
theorem Less.Iy {ds:List D} {ws:List AV} {k:Nat} {kw:AV} (h:fH ((ds.map AV.d).set k kw) ws) (hk:ws[k]? = some kw) (hf:jK ds=true) (hw:Jf kw):Less (Ev.eY ((ds.map AV.d).set k kw)) (Ev.eY ws):=by
 rcases hw with rfl | ⟨id,g,off,len,lim,sz,rfl⟩
 ·
  have e:(ds.map AV.d).set k (.d .aT)=(ds.set k .aT).map AV.d:=by rw [List.map_set]
  rw [e] at h ⊢
  have hf':jK (ds.set k .aT)=true:=xH (fun d hd=>by
   rcases List.mem_or_eq_of_mem_set hd with hd | rfl
   ·
    exact uN hf d hd
   ·
    rfl)
  rw [GI]
  exact Less.Ig h hf'
 ·
  have hl:=h.len
  have hlt:k < ws.length:=(List.getElem?_eq_some_iff.1 hk).1
  have hk2:((ds.map AV.d).set k (.dH id g off len lim sz))[k]? = some (.dH id g off len lim sz):=by
   rw [List.getElem?_set_self (by rw [← List.length_set,hl]; exact hlt)]
  rw [xw (ze (fun d=>by simp) hk),xw (ze (fun d=>by simp) hk2)]
  intro cx S w v hr
  cases hr with
  | agg _ vs hvl ho hh =>
   refine .agg _ vs (by rw [hvl,hl]) ho (fun i x u hx hu=>?_)
   have hi:i < ws.length:=by rw [← hvl]; exact (List.getElem?_eq_some_iff.1 hu).1
   have hy:=List.getElem?_eq_getElem hi
   exact h.get hx hy _ _ _ _ (hh i _ u hy hu)
theorem fH.JH {ds:List AV} {ws:List AV} {k:Nat} {a kw:AV} (h:fH (ds.set k a) ws) (hk:ws[k]? = some kw):fH (ds.set k kw) ws:=by
 have:=h.set (Less.refl kw) k
 rw [List.set_set] at this
 have e:ws.set k kw=ws:=by
  obtain ⟨hlt,h2⟩:=List.getElem?_eq_some_iff.1 hk
  rw [← h2]; exact List.set_getElem_self hlt
 rwa [e] at this
theorem BS {k:Nat} {ws:List AV} (h:k < ws.length):ws[k]? = some (jd k ws):=by
 unfold jd
 rw [List.getD_eq_getElem?_getD,List.getElem?_eq_getElem h]; rfl
section
variable {α:Type} {enc:α→D} {kid:α→List Int} {sz k:Nat} {v:AV} {wss:List (List AV)} {xs:List α} {hole:Option Nat} {S S':St}
theorem j4.lens (h:j4 enc kid sz k v wss xs hole S):∀ ws ∈ wss,ws.length=sz:=fun ws hws=>by
 obtain ⟨i,hi,rfl⟩:=List.getElem_of_mem hws
 have:i < xs.length:=by rw [← h.1]; exact hi
 exact (h.2.2.1 i _ _ (List.getElem?_eq_getElem this) (List.getElem?_eq_getElem hi)).1.2.2.1
section
variable {C:fA} {ρ:Operand→Option AV} {l:List bA} {x y:Operand} {t:Nat} {n:Int} {z:α}
theorem CE (h:j4 enc kid sz k v wss xs hole S):lM v S'=some xs.length:=by
 obtain ⟨h1,h2,h3,h4⟩:=h
 revert h4
 split
 ·
  intro q; subst q; rfl
 ·
  rintro ⟨rfl,rfl,rfl,rfl,q⟩; rfl
 ·
  exact fun q=>q.elim
theorem CL (h:j4 enc kid sz k v wss xs hole S) (ht:(aZ C.P t).isSome=true):kJ C t v=true:=by
 have hu:∃ e,C.P.underlying t=some (.slice e):=by
  unfold aZ at ht
  split at ht
  ·
   rename_i hu; exact ⟨_,hu⟩
  ·
   cases ht
 obtain ⟨e,hu⟩:=hu
 obtain ⟨h1,h2,h3,h4⟩:=h
 revert h4
 split
 ·
  intro q; simp [kJ,hu]
 ·
  rintro _; simp [kJ,hu]
 ·
  exact fun q=>q.elim
theorem qQ (H:Has B S l) {i:Nat} (hi:l[i]? = some (ay enc kid sz k v wss xs hole)) (h:ρ x=some v) (ht:(aZ C.P t).isSome=true):oper C ρ S (.call { callee:=.builtin .len,args:=#[x],argTypes:=#[t] })=some (.val (.d (.int .i64 (xs.length:Int))) S):=by
 have hp:=eQ.1 (H.at hi)
 exact kr h (CL hp ht) (by rw [CE hp])
theorem jy {w:AV} {ys:List Int} (H:Has B S l) {i:Nat} (hi:l[i]? = some (aG w ys)) (h:ρ x=some w) (ht:(aZ C.P t).isSome=true):oper C ρ S (.call { callee:=.builtin .len,args:=#[x],argTypes:=#[t] })=some (.val (.d (.int .i64 (ys.length:Int))) S):=by
 have hp:=fG.1 (H.at hi)
 have hu:∃ e,C.P.underlying t=some (.slice e):=by
  unfold aZ at ht
  split at ht
  ·
   rename_i hu; exact ⟨_,hu⟩
  ·
   cases ht
 obtain ⟨e,hu⟩:=hu
 unfold iw at hp
 split at hp
 ·
  subst hp; exact kr h (by simp [kJ,hu]) rfl
 ·
  obtain ⟨_,_,h3,_⟩:=hp; subst h3; exact kr h (by simp [kJ,hu]) (by simp [lM])
 ·
  exact hp.elim
theorem j4.ptr (h:j4 enc kid sz k v wss xs hole S) (hz:idx xs n=some z) (off:Nat):∃ id g ws a b,wss[n.toNat]? = some ws∧lg sz k (enc z) ws∧v=.dH id g 0 xs.length xs.length sz∧bu v n.toNat off=.ptr id g (n.toNat * sz + off)∧S.H.get id=some (.cells g wss.flatten) ∧
  wss.flatten=a ++ ws ++ b∧a.length=n.toNat * sz∧(∀ ws',(wss.set n.toNat ws').flatten=a ++ ws' ++ b)∧n.toNat < xs.length:=by
 obtain ⟨ws,h1,h2,h3,id,g,rfl,h5⟩:=h.node (dC hz).2
 obtain ⟨a,b,q1,q2,q3⟩:=DR h.lens h1
 exact ⟨id,g,ws,a,b,h1,h2,rfl,rfl,h5,q1,q2,q3,(List.getElem?_eq_some_iff.1 (dC hz).2).1⟩
theorem fJ (H:Has B S l) {i:Nat} (hi:l[i]? = some (ay enc kid sz k v wss xs hole)) {kk:IntKind} {el:Nat} (hz:idx xs n=some z) (hx:ρ x=some v) (hy:ρ y=some (.d (.int kk n)))
  (he:aZ C.P t=some el) (ha:(dV C.P el).isSome=true) (hs:aK C.P el=sz):oper C ρ S (.indexAddr t x y)=some (.val (bu v n.toNat 0) S):=by
 obtain ⟨id,g,ws,a,b,h1,h2,rfl,h4,h5,h6,h7,h8,h9⟩:=(eQ.1 (H.at hi)).ptr hz 0
 rw [h4]
 refine bE hx hy ?_
 simp only [gV,he,(dC hz).1,ha,decide_true,Bool.and_self,if_true]
 rw [if_pos ⟨h9,hs.symm⟩,hs]
 simp
theorem bg (H:Has B S l) {i:Nat} (hi:l[i]? = some (ay enc kid sz k v wss xs hole)) {s fld fo ft o' off:Nat} (hz:idx xs n=some z) (h:ρ x=some (bu v n.toNat off)) (hf:eZ C.P s fld=some (fo,ft)) (hb:Nat.beq (aK C.P ft) 0=false) (ho:off + fo=o') :
  oper C ρ S (.fieldAddr s x fld)=some (.val (bu v n.toNat o') S):=by
 obtain ⟨id,g,ws,a,b,h1,h2,rfl,h4,h5,h6,h7,h8,h9⟩:=(eQ.1 (H.at hi)).ptr hz off
 rw [h4] at h
 rw [aD h hf hb rfl]
 subst ho
 simp [bu,Nat.add_assoc]
theorem qp (H:Has B S l) {i:Nat} (hi:l[i]? = some (ay enc kid sz k v wss xs hole)) {off:Nat} (hz:idx xs n=some z) (h:ρ x=some (bu v n.toNat off)) (ha:dV C.P t=some false) (ho:Nat.blt off sz=true) :
  ∃ ws,wss[n.toNat]? = some ws∧lg sz k (enc z) ws∧oper C ρ S (.load t x)=some (.val (ws.getD off .any) S):=by
 obtain ⟨id,g,ws,a,b,h1,h2,rfl,h4,h5,h6,h7,h8,h9⟩:=(eQ.1 (H.at hi)).ptr hz off
 rw [h4] at h
 refine ⟨ws,h1,h2,?_⟩
 have ho:off < sz:=by have:=Nat.le_of_ble_eq_true ho; omega
 have hl:off < ws.length:=by rw [h2.2.2.1]; exact ho
 have:part C.P t wss.flatten (n.toNat * sz + off)=some (ws.getD off .any):=by
  unfold part
  rw [ha]
  simp only
  rw [h6,List.append_assoc,List.getElem?_append_right (by omega),h7,show n.toNat * sz + off - n.toNat * sz=off by omega,List.getElem?_append_left hl,List.getD_eq_getElem?_getD,List.getElem?_eq_getElem hl]; rfl
 simp only [oper,h,kM,St.look,h5,Nat.beq_refl,cond_true,this,Option.map_some]
theorem wJ (H:Has B S l) {i:Nat} (hi:l[i]? = some (ay enc kid sz k v wss xs hole)) {off:Nat} {d:D} (hz:idx xs n=some z) (h:ρ x=some (bu v n.toNat off)) (ha:dV C.P t=some false) (hk:Nat.beq k off=false) (hd:(enc z).cells[off]? = some d) :
  ∃ w,oper C ρ S (.load t x)=some (.val w S)∧Less (.d d) w:=by
 have hn:=eQ.1 (H.at hi)
 obtain ⟨ws0,g1,g2,_⟩:=hn.node (dC hz).2
 have ho:off < sz:=by rw [← g2.1]; exact (List.getElem?_eq_some_iff.1 hd).1
 obtain ⟨ws,h1,h2,h3⟩:=qp (C:=C) (ρ:=ρ) H hi (off:=off) hz h ha (by simp [Nat.blt]; omega)
 refine ⟨_,h3,?_⟩
 have hl:off < ws.length:=by rw [h2.2.2.1]; exact ho
 have hne:k ≠ off:=fun q=>by subst q; simp at hk
 have e1:(((enc z).cells.map AV.d).set k .any)[off]? = some (.d d):=by
  rw [List.getElem?_set_ne hne,List.getElem?_map,hd]; rfl
 have e2:ws[off]? = some (ws.getD off .any):=by rw [List.getD_eq_getElem?_getD,List.getElem?_eq_getElem hl]; rfl
 exact h2.2.2.2.get e1 e2
theorem fO (H:Has B S l) {i:Nat} (hi:l[i]? = some (ay enc kid sz k v wss xs hole)) (hz:idx xs n=some z) (h:ρ x=some (bu v n.toNat k)) (ha:dV C.P t=some false) :
  oper C ρ S (.load t x)=some (.val (gX k wss n.toNat) S):=by
 have hn:=eQ.1 (H.at hi)
 obtain ⟨ws,h1,h2,h3⟩:=qp (C:=C) (ρ:=ρ) H hi (off:=k) hz h ha (by have:=hn.2.1; simp [Nat.blt]; omega)
 rw [h3,wz h1]; rfl
theorem wW (H:Has B S l) {i:Nat} (hi:l[i]? = some (ay enc kid sz k v wss xs none)) (hz:idx xs n=some z) (h:ρ x=some (bu v n.toNat 0)) (ha:dV C.P t=some true) (hs:aK C.P t=sz) :
  ∃ w,oper C ρ S (.load t x)=some (.val w S)∧Less (Ev.eY (((enc z).cells.map AV.d).set k (gX k wss n.toNat))) w:=by
 have hn:=eQ.1 (H.at hi)
 obtain ⟨id,g,ws,a,b,h1,h2,rfl,h4,h5,h6,h7,h8,h9⟩:=hn.ptr hz 0
 obtain ⟨_,w1,_,w3,_⟩:=hn.node (dC hz).2
 rw [h1] at w1; cases w1
 rw [h4] at h
 have hk:k < ws.length:=by rw [h2.2.2.1]; exact hn.2.1
 refine ⟨Ev.eY ws,?_,?_⟩
 ·
  have:part C.P t wss.flatten (n.toNat * sz + 0)=some (Ev.eY ws):=by
   unfold part
   rw [ha]
   simp only
   have e:(wss.flatten.drop (n.toNat * sz + 0)).take (aK C.P t)=ws:=by
    rw [h6,hs,Nat.add_zero,← h7,List.append_assoc,List.drop_left,← h2.2.2.1,List.take_left]
   rw [e,if_pos (by rw [h6,hs]; simp only [List.length_append]; have:=h2.2.2.1; omega)]
  simp only [oper,h,kM,St.look,h5,Nat.beq_refl,cond_true,this,Option.map_some]
 ·
  rw [wz h1]
  exact Less.Iy (h2.2.2.2.JH (BS hk)) (BS hk) h2.2.1 (w3 (by simp)).kw
end
end
end
end Go.Ev

namespace Go.Ev
noncomputable section
set_option linter.unusedVariables false
set_option linter.unusedSimpArgs false
variable {R:bN} {P:Program} {B:St}
section
variable {α:Type} {enc:α→D} {kid:α→List Int} {sz k:Nat} {v:AV} {wss:List (List AV)} {xs:List α} {hole:Option Nat} {S S':St}
theorem j4.set {id g:Nat} {n:Nat} {ws ws':List AV} {z z':α} (h:j4 enc kid sz k (.dH id g 0 xs.length xs.length sz) wss xs hole S) (hw:wss[n]? = some ws) (hx:xs[n]? = some z) (hnode:lg sz k (enc z') ws') {hole':Option Nat}
  (hh:∀ m,m ≠ n→(hole'=some m↔hole=some m)) (hk:hole' ≠ some n→iw (jd k ws') (kid z') S) (hid:id ∉ bH k hole' (wss.set n ws')) :
  j4 enc kid sz k (.dH id g 0 xs.length xs.length sz) (wss.set n ws') (xs.set n z') hole' { S with H:=S.H.set id (.cells g (wss.set n ws').flatten) }:=by
 obtain ⟨h1,h2,h3,h4⟩:=h
 have hn:n < wss.length:=(List.getElem?_eq_some_iff.1 hw).1
 refine ⟨by simp [h1],h2,fun i x u hx' hu=>?_,rfl,by simp,by simp,rfl,by simp only [AL.aO,if_true]⟩
 have hkeep:∀ {w:AV} {ys:List Int},iw w ys S→(∀ j ∈ aP w,j ≠ id)→iw w ys { S with H:=S.H.set id (.cells g (wss.set n ws').flatten) }:=fun q hq=>q.keep (fun j hj=>by simp only [AL.aO]; rw [if_neg (fun e=>hq j hj e.symm)])
 by_cases hi:n=i
 ·
  subst hi
  rw [List.getElem?_set_self (by rw [← h1]; exact hn)] at hx'
  rw [List.getElem?_set_self hn] at hu
  cases hx'; cases hu
  refine ⟨hnode,fun q=>hkeep (hk q) (fun j hj e=>?_)⟩
  subst e
  exact hid (iL.2 ⟨n,ws',by rw [List.getElem?_set_self hn],q,hj⟩)
 ·
  rw [List.getElem?_set_ne hi] at hx' hu
  obtain ⟨q1,q2⟩:=h3 i x u hx' hu
  refine ⟨q1,fun q=>hkeep (q2 (fun e=>q ((hh i (Ne.symm hi)).2 e))) (fun j hj e=>?_)⟩
  subst e
  exact hid (iL.2 ⟨i,u,by rw [List.getElem?_set_ne hi]; exact hu,q,hj⟩)
section
variable {l:List bA} {n:Nat} {z z':α} {ws ws':List AV} {id g:Nat}
theorem kW:gT [ay enc kid sz k v wss xs hole]=aP v ++ bH k hole wss:=by simp [gT,ay,bA.fp]
theorem Has.Ji (H:Has B S (ay enc kid sz k (.dH id g 0 xs.length xs.length sz) wss xs hole :: l)) (hw:wss[n]? = some ws) (hx:xs[n]? = some z) (hnode:lg sz k (enc z') ws') (hkw:jd k ws'=jd k ws) (hkid:kid z'=kid z) :
  Has B { S with H:=S.H.set id (.cells g (wss.set n ws').flatten) } (ay enc kid sz k (.dH id g 0 xs.length xs.length sz) (wss.set n ws') (xs.set n z') hole :: l):=by
 have hp:=eQ.1 (H.ok _ List.mem_cons_self)
 have hnd:(gT [ay enc kid sz k (.dH id g 0 xs.length xs.length sz) wss xs hole]).Nodup:=Has.nd0 (l0:=[_]) H
 rw [kW] at hnd
 have hidlt:id < S.nx:=Has.lt H (id:=id) (iK.2 ⟨_,List.mem_cons_self,by simp [ay,bA.fp,aP]⟩)
 have hs:=ny (k:=k) hw hkw hole
 have e:gT [ay enc kid sz k (.dH id g 0 xs.length xs.length sz) (wss.set n ws') (xs.set n z') hole]=aP (.dH id g 0 xs.length xs.length sz) ++ bH k hole wss:=by rw [kW,hs]
 refine Has.upd (l0:=[_]) (bs:=[_]) H (wf_set H.wf hidlt _) (Nat.le_refl _) (fun j hj _=>⟨?_,rfl⟩) (fun a ha=>?_) (by rw [e]; exact hnd) (fun j hj=>.inl (by rw [kW]; rw [e] at hj; exact hj))
 ·
  simp only [AL.aO]
  rw [if_neg (fun q=>hj (by subst q; rw [kW]; simp [aP]))]
 ·
  simp only [List.mem_cons,List.not_mem_nil,or_false] at ha
  subst ha
  refine eQ.2 (hp.set hw hx hnode (fun m _=>Iff.rfl) (fun q=>?_) ?_)
  ·
   rw [hkw,hkid]
   obtain ⟨u,h1,h2,h3,_⟩:=hp.node hx
   rw [hw] at h1; cases h1
   exact h3 q
  ·
   rw [hs]
   simp only [aP,List.singleton_append,List.nodup_cons] at hnd
   exact hnd.1
theorem Has.Hf {pre:List bA} {w:AV} {ys:List Int} (hpre:gT pre=aP w) (H:Has B S (pre ++ ay enc kid sz k (.dH id g 0 xs.length xs.length sz) wss xs hole :: l)) (hh:hole=none∨hole=some n) (hs:iw w ys S)
  (hw:wss[n]? = some ws) (hx:xs[n]? = some z) (hnode:lg sz k (enc z') ws') (hkw:jd k ws'=w) (hkid:kid z'=ys) :
  Has B { S with H:=S.H.set id (.cells g (wss.set n ws').flatten) } (ay enc kid sz k (.dH id g 0 xs.length xs.length sz) (wss.set n ws') (xs.set n z') none :: l):=by
 have H2:Has B S ((pre ++ [ay enc kid sz k (.dH id g 0 xs.length xs.length sz) wss xs hole]) ++ l):=by simpa using H
 have hp:=eQ.1 (H.ok (ay enc kid sz k (.dH id g 0 xs.length xs.length sz) wss xs hole) (by simp))
 have hnd:=Has.nd0 H2
 rw [pJ,kW,hpre] at hnd
 have hn:n < wss.length:=(List.getElem?_eq_some_iff.1 hw).1
 have hidlt:id < S.nx:=Has.lt H (id:=id) (iK.2 ⟨ay enc kid sz k (.dH id g 0 xs.length xs.length sz) wss xs hole,by simp,by simp [ay,bA.fp,aP]⟩)
 have hperm:(bH k none (wss.set n ws')).Perm (aP w ++ bH k (some n) wss):=by
  have:=jU (k:=k) (wss:=wss.set n ws') (n:=n) (ws:=ws') (by rw [List.getElem?_set_self hn])
  rwa [hkw,rU] at this
 have hsub:∃ q,(q ++ bH k (some n) wss).Perm (bH k hole wss):=by
  rcases hh with rfl | rfl
  ·
   exact ⟨_,(jU hw).symm⟩
  ·
   exact ⟨[],List.Perm.refl _⟩
 obtain ⟨q,hq⟩:=hsub
 have hnd2:(aP w ++ ([id] ++ (q ++ bH k (some n) wss))).Nodup:=by
  refine (List.Perm.nodup_iff ?_).1 hnd
  exact List.Perm.append_left _ (List.Perm.append_left _ hq.symm)
 have e:gT [ay enc kid sz k (.dH id g 0 xs.length xs.length sz) (wss.set n ws') (xs.set n z') none]=[id] ++ bH k none (wss.set n ws'):=by rw [kW]; rfl
 have hnd3:([id] ++ (aP w ++ bH k (some n) wss)).Nodup:=by
  have h1:(aP w ++ ([id] ++ bH k (some n) wss)).Nodup:=hnd2.sublist (List.Sublist.append_left (List.Sublist.append_left (List.sublist_append_right _ _) _) _)
  refine (List.Perm.nodup_iff ?_).1 h1
  rw [← List.append_assoc,← List.append_assoc]
  exact List.Perm.append_right _ List.perm_append_comm
 refine Has.upd (bs:=[_]) H2 (wf_set H.wf hidlt _) (Nat.le_refl _) (fun j hj _=>⟨?_,rfl⟩) (fun a ha=>?_) ?_ (fun j hj=>.inl ?_)
 ·
  simp only [AL.aO]
  rw [if_neg (fun q=>hj (by subst q; rw [pJ,kW]; simp [aP]))]
 ·
  simp only [List.mem_cons,List.not_mem_nil,or_false] at ha
  subst ha
  refine eQ.2 (hp.set hw hx hnode (fun m hm=>?_) (fun _=>by rw [hkw,hkid]; exact hs) ?_)
  ·
   rcases hh with rfl | rfl
   ·
    simp
   ·
    simp [Ne.symm hm]
  ·
   intro hm
   have:=hperm.mem_iff.1 hm
   simp only [List.singleton_append,List.nodup_cons] at hnd3
   exact hnd3.1 this
 ·
  rw [e]
  exact (List.Perm.append_left _ hperm).nodup_iff.2 hnd3
 ·
  rw [e] at hj
  rw [pJ,kW,hpre]
  rcases List.mem_append.1 hj with hj | hj
  ·
   exact List.mem_append_right _ (List.mem_append_left _ hj)
  ·
   rcases List.mem_append.1 (hperm.mem_iff.1 hj) with hj | hj
   ·
    exact List.mem_append_left _ hj
   ·
    exact List.mem_append_right _ (List.mem_append_right _ (hq.mem_iff.1 (List.mem_append_right _ hj)))
section
variable {C:fA} {ρ:Operand→Option AV} {x y:Operand} {t:Nat} {i:Int}
theorem si (hp:j4 enc kid sz k v wss xs hole S) {off:Nat} {vy:AV} {cv:List AV} (hz:idx xs i=some z) (h:ρ x=some (bu v i.toNat off)) (hy:ρ y=some vy) (hc:vy.cells=cv) (hpl:vy.plain=true) (hn:aK C.P t=cv.length) (hag:(dV C.P t).isSome=true) (hb:Nat.ble (off + cv.length) sz=true) :
  ∃ id g ws,v=.dH id g 0 xs.length xs.length sz∧wss[i.toNat]? = some ws∧lg sz k (enc z) ws∧oper C ρ S (.store t x y)=some (.skip { S with H:=S.H.set id (.cells g (wss.set i.toNat (setAt ws off cv)).flatten) }):=by
 obtain ⟨id,g,ws,a,b,h1,h2,rfl,h4,h5,h6,h7,h8,h9⟩:=hp.ptr hz off
 rw [h4] at h
 refine ⟨id,g,ws,rfl,h1,h2,?_⟩
 have hb:=Nat.le_of_ble_eq_true hb
 have hl:=h2.2.2.1
 subst hc
 have e:setAt wss.flatten (i.toNat * sz + off) vy.cells=(wss.set i.toNat (setAt ws off vy.cells)).flatten:=by
  rw [h8,h6,← h7]
  exact FC (by omega)
 simp only [oper,h,hy,tH,h5]
 rw [if_pos ⟨hn.symm,hpl,hag⟩,if_pos trivial,if_pos (by rw [h6]; simp only [List.length_append]; omega),e]
 rfl
theorem lg.Jy {d d':D} {ws:List AV} {off:Nat} {vy:AV} (h:lg sz k d ws) (hk:Nat.beq k off=false) {dd:D} (hl:Less (.d dd) vy) (hs:d.cells.set off dd=d'.cells) (hf:dd.isAgg=false):lg sz k d' (ws.set off vy):=by
 have hne:k ≠ off:=fun q=>by subst q; simp at hk
 refine ⟨by rw [← hs]; simp [h.1],by
  rw [← hs]
  exact xH (fun c hc=>by
   rcases List.mem_or_eq_of_mem_set hc with hc | rfl
   ·
    exact uN h.2.1 c hc
   ·
    exact hf),by simp [h.2.2.1],?_⟩
 rw [← hs,List.map_set,List.set_comm _ _ (Ne.symm hne)]
 exact h.2.2.2.set hl off
theorem Fp {ws:List AV} {off:Nat} {vy:AV} (hk:Nat.beq k off=false):jd k (ws.set off vy)=jd k ws:=by
 have hne:k ≠ off:=fun q=>by subst q; simp at hk
 unfold jd
 rw [List.getD_eq_getElem?_getD,List.getElem?_set_ne (Ne.symm hne),← List.getD_eq_getElem?_getD]
theorem lg.IU {d d':D} {ws:List AV} {w:AV} {c:D} (h:lg sz k d ws) (hs:d.cells.set k c=d'.cells) (hf:c.isAgg=false):lg sz k d' (ws.set k w):=by
 refine ⟨by rw [← hs]; simp [h.1],by
  rw [← hs]
  exact xH (fun c hc=>by
   rcases List.mem_or_eq_of_mem_set hc with hc | rfl
   ·
    exact uN h.2.1 c hc
   ·
    exact hf),by simp [h.2.2.1],?_⟩
 rw [← hs,List.map_set,List.set_set]
 have:=h.2.2.2.set (Less.any w) k
 rwa [List.set_set] at this
theorem D6 {ws:List AV} {w:AV} (h:k < ws.length):jd k (ws.set k w)=w:=by
 unfold jd
 rw [List.getD_eq_getElem?_getD,List.getElem?_set_self h]; rfl
end
section
variable {C:fA} {nt:Nat} {ops:Array Oper} {rest:List Oper} {e:Env} {Q:Stp→Prop} {t ty:Nat} {p:String} {af:Array Edge} {gg:Option (Nat × Bool)} {x y:Operand} {i:Int}
theorem ai.pO {off tt:Nat} {vy:AV} {dd:D} (H:Has B S (ay enc kid sz k v wss xs hole :: l)) (hw:bO ops e { dst:=none,op:=.store tt x y,type:=ty,pos:=p,after:=af,guard:=gg }=some true) (hz:idx xs i=some z) (h:bK e x=some (bu v i.toNat off)) (hy:bK e y=some vy)
  (hc:vy.cells=[vy]) (hpl:vy.plain=true) (hl:Less (.d dd) vy) (hn:aK C.P tt=1) (hag:(dV C.P tt).isSome=true) (hb:Nat.ble (off + 1) sz=true) (hk:Nat.beq k off=false) (hs:(enc z).cells.set off dd=(enc z').cells) (hf:dd.isAgg=false) (hkid:kid z'=kid z)
  (kk:∀ wss' S',Has B S' (ay enc kid sz k v wss' (jI xs i z') hole :: l)→ai R C nt ops rest e S' Q) :
  ai R C nt ops ({ dst:=none,op:=.store tt x y,type:=ty,pos:=p,after:=af,guard:=gg } :: rest) e S Q:=by
 obtain ⟨id,g,ws,rfl,h1,h2,h3⟩:=si (C:=C) (ρ:=bK e) (eQ.1 (H.ok _ List.mem_cons_self)) hz h hy hc hpl hn hag hb
 have:=Has.Ji H (ws':=ws.set off vy) h1 (dC hz).2 (h2.Jy hk hl hs hf) (Fp hk) hkid
 exact ai.skip hw h3 (kk (wss.set i.toNat (setAt ws off [vy])) _ this)
theorem ai.xY {tt:Nat} {w:AV} {ys:List Int} {c:D} (H:Has B S (aG w ys :: ay enc kid sz k v wss xs hole :: l)) (hw:bO ops e { dst:=none,op:=.store tt x y,type:=ty,pos:=p,after:=af,guard:=gg }=some true) (hz:idx xs i=some z) (hh:hole=none∨hole=some i.toNat) (h:bK e x=some (bu v i.toNat k)) (hy:bK e y=some w)
  (hn:aK C.P tt=1) (hag:(dV C.P tt).isSome=true) (hs:(enc z).cells.set k c=(enc z').cells) (hf:c.isAgg=false) (hkid:kid z'=ys)
  (kk:∀ wss' S',Has B S' (ay enc kid sz k v wss' (jI xs i z') none :: l)→ai R C nt ops rest e S' Q) :
  ai R C nt ops ({ dst:=none,op:=.store tt x y,type:=ty,pos:=p,after:=af,guard:=gg } :: rest) e S Q:=by
 have hs0:=fG.1 (H.ok _ List.mem_cons_self)
 have hp:=eQ.1 (H.ok (ay enc kid sz k v wss xs hole) (by simp))
 obtain ⟨id,g,ws,rfl,h1,h2,h3⟩:=si (C:=C) (ρ:=bK e) hp hz h hy hs0.plain.2 hs0.plain.1 hn hag (by have:=hp.2.1; exact Nat.ble_eq_true_of_le (by simp; omega))
 have:=Has.Hf (pre:=[aG w ys]) (by simp [gT,aG,bA.fp]) H hh hs0 (ws':=ws.set k w) h1 (dC hz).2 (h2.IU hs hf) (D6 (by rw [h2.2.2.1]; exact hp.2.1)) hkid
 exact ai.skip hw h3 (kk (wss.set i.toNat (setAt ws k [w])) _ this)
theorem ai.xn {tt:Nat} {vy:AV} {cv:List AV} (H:Has B S (ay enc kid sz k v wss xs hole :: l)) (hw:bO ops e { dst:=none,op:=.store tt x y,type:=ty,pos:=p,after:=af,guard:=gg }=some true) (hz:idx xs i=some z) (hh:hole=none∨hole=some i.toNat) (h:bK e x=some (bu v i.toNat 0)) (hy:bK e y=some vy)
  (hc:vy.cells=cv) (hpl:vy.plain=true) (hn:aK C.P tt=sz) (hag:(dV C.P tt).isSome=true) (hcl:cv.length=sz) (hel:(enc z').cells.length=sz) (hef:jK (enc z').cells=true) (hle:fH (((enc z').cells.map AV.d).set k .any) cv) (hkw:jd k cv=.d .aT) (hkid:kid z'=[])
  (kk:∀ wss' S',Has B S' (ay enc kid sz k v wss' (jI xs i z') none :: l)→ai R C nt ops rest e S' Q) :
  ai R C nt ops ({ dst:=none,op:=.store tt x y,type:=ty,pos:=p,after:=af,guard:=gg } :: rest) e S Q:=by
 have hp:=eQ.1 (H.ok _ List.mem_cons_self)
 obtain ⟨id,g,ws,rfl,h1,h2,h3⟩:=si (C:=C) (ρ:=bK e) hp hz h hy hc hpl (by rw [hn,hcl]) hag (Nat.ble_eq_true_of_le (by omega))
 have e1:setAt ws 0 cv=cv:=by
  have:=oG cv [] ws [] (by rw [hcl,h2.2.2.1])
  simpa using this
 have:=Has.Hf (pre:=[]) (w:=.d .aT) (ys:=[]) (by simp [gT,aP]) H hh Ae (ws':=cv) h1 (dC hz).2 ⟨hel,hef,hcl,hle⟩ hkw hkid
 rw [e1] at h3
 exact ai.skip hw h3 (kk (wss.set i.toNat cv) _ this)
end
end
end
end
end Go.Ev

namespace Go.Ev
noncomputable section
set_option linter.unusedVariables false
set_option linter.unusedSimpArgs false
variable {R:bN} {P:Program} {B:St}
theorem Ex {cx:Cx} {S:St} {w:World} (h:bf R cx S w) {id g sz:Nat} {xs:List D} {cs0:List AV} (hcs0:∀ (i j:Nat) (x c:D),xs[i]? = some x→x.cells[j]? = some c→j < sz→∃ y,cs0[i * sz + j]? = some y∧Less (.d c) y) {lim:Nat} (hid:S.H.get id=some (.cells g cs0)) (hpos:0 < sz) (hsz:∀ x ∈ xs,x.cells.length=sz∧jK x.cells=true)
  {fr':Nat→Nat→Prop} (hp:∀ (b o:Nat) (v:Value),¬ cx.fr b o→w.cell? ⟨b,o,none⟩=some v→w.cell? ⟨b,o,none⟩=some v∧¬ fr' b o) (hfr:∀ o,¬ fr' (cx.bm id) o) {u:Value} (hu:aN cx S w (.dH id g 0 xs.length lim sz) u):bC w fr' (.sl xs false) u:=by
 cases hu with
 | dH _ _ _ _ _ _ b cap hn hl hcap h63 hq =>
  obtain ⟨hb,_,_⟩:=hq (by unfold cur; rw [hid])
  subst hb
  obtain ⟨c1,c2,arr,el,c3,⟨c4,c5,c6⟩,c7⟩:=h.cells id g _ hid
  refine ⟨?_,rfl⟩
  by_cases hne:xs=[]
  ·
   subst hne; exact .sl0 _ cap false (fun q=>by cases q)
  have hcap:xs.length ≤ cap:=Nat.le_trans hl hcap
  let vs:Nat→List Value:=fun i=>(List.range sz).map fun j=>(arr[i * sz + j]?).getD default
  have hcell:∀ (i j:Nat) (x:D),xs[i]? = some x→j < sz→∃ c v,x.cells[j]? = some c∧arr[i * sz + j]? = some v∧aN cx S w (.d c) v∧v.oneCell'=true:=fun i j x hx hj=>by
   have hxl:=(hsz x (List.mem_of_getElem? hx)).1
   have hc:x.cells[j]? = some x.cells[j]:=List.getElem?_eq_getElem (by omega)
   obtain ⟨y,y1,y2⟩:=hcs0 i j x _ hx hc hj
   obtain ⟨v,v1,v2,v3⟩:=c7 (i * sz + j) _ y1
   exact ⟨_,v,hc,v1,y2 _ _ _ _ v2,v3⟩
  have hvs:∀ (i j:Nat) (v:Value),(vs i)[j]? = some v→j < sz∧(arr[i * sz + j]?).getD default=v:=fun i j v hv=>by
   simp only [vs,List.getElem?_map,Option.map_eq_some_iff] at hv
   obtain ⟨k,hk,rfl⟩:=hv
   rw [List.getElem?_eq_some_iff] at hk
   obtain ⟨hlt,hk⟩:=hk
   simp at hlt hk
   subst hk
   exact ⟨hlt,rfl⟩
  refine .sl xs false (cx.bm id) 0 cap sz vs hne hcap (fun q=>by cases q) (fun i x hx=>(hsz x (List.mem_of_getElem? hx)).1) (fun i hi=>by simp [vs]) (fun i x hx=>?_) (fun i j v hi hv=>?_)
  ·
   have hm:=hsz x (List.mem_of_getElem? hx)
   refine gu.of_cells hm.2 (by simp [vs,hm.1]) (fun v hv=>?_) (fun j c v hc hv=>?_)
   ·
    obtain ⟨j,hj,rfl⟩:=List.getElem_of_mem hv
    have hj':=List.getElem?_eq_getElem hj
    obtain ⟨k1,k2⟩:=hvs i j _ hj'
    obtain ⟨c,v,_,v1,_,v3⟩:=hcell i j x hx k1
    rw [v1] at k2
    rw [← k2]; exact v3
   ·
    obtain ⟨k1,k2⟩:=hvs i j v hv
    obtain ⟨c',v',h1,v1,v2,v3⟩:=hcell i j x hx k1
    rw [v1] at k2
    simp at k2
    subst k2
    rw [hc] at h1; cases h1
    have:=(v2.dd.mono hp).1
    rw [(kV v3).1] at this
    exact this
  ·
   obtain ⟨k1,k2⟩:=hvs i j v hv
   obtain ⟨c',v',h1,v1,v2,v3⟩:=hcell i j xs[i] (List.getElem?_eq_getElem hi) k1
   rw [v1] at k2
   simp at k2
   subst k2
   refine ⟨?_,hfr _⟩
   simp only [World.cell?,c3,Nat.zero_add]
   simp [v1]
def G9 (sz n:Nat) (v:AV) (cs:List AV) (S:St):Prop:=∃ id g,v=.dH id g 0 n n sz∧S.H.get id=some (.cells g cs)∧cs.length=n * sz
def fF (sz n:Nat) (v:AV) (cs:List AV):bA:=.abs (aP v) (G9 sz n v cs)
theorem uC {sz n:Nat} {v:AV} {cs:List AV} {S:St}:(fF sz n v cs).ok S↔G9 sz n v cs S:=by
 constructor
 ·
  exact fun h=>h.2 S (fun _ _=>rfl)
 ·
  rintro ⟨id,g,rfl,h1,h2⟩
  refine ⟨fun j hj=>?_,fun S' k=>⟨id,g,rfl,by rw [k id (by simp [aP])]; exact h1,h2⟩⟩
  simp only [aP,List.mem_singleton] at hj
  subst hj; exact ⟨_,h1⟩
theorem Gl {S:St} {v:AV} {c:Int} (h:G9 1 1 v [iE c] S):iw v [c] S:=by
 obtain ⟨id,g,rfl,h1,h2⟩:=h
 exact ⟨rfl,rfl,rfl,by decide,_,h1,rfl,rfl⟩
section
variable {S:St} {l:List bA}
theorem Has.Kn {v:AV} {c:Int} (H:Has B S (fF 1 1 v [iE c] :: l)):Has B S (aG v [c] :: l):=by
 refine Has.pF (l0:=[_]) (bs:=[_]) H (fun a ha=>?_) ?_ (fun id hid=>by simpa [gT,aG,fF,bA.fp] using hid)
 ·
  simp only [List.mem_cons,List.not_mem_nil,or_false] at ha
  subst ha
  exact fG.2 (Gl (uC.1 (H.ok _ List.mem_cons_self)))
 ·
  have:=Has.nd0 (l0:=[_]) H
  simpa [gT,aG,fF,bA.fp] using this
theorem Has.FL (H:Has B S l):Has B S (aG (.d .aT) [] :: l):=by
 refine Has.pF (l0:=[]) (bs:=[_]) H (fun a ha=>?_) (by simp [gT,aG,bA.fp,aP]) (fun id hid=>by simp [gT,aG,bA.fp,aP] at hid)
 simp only [List.mem_cons,List.not_mem_nil,or_false] at ha
 subst ha
 exact fG.2 Ae
theorem Has.GZ {α:Type} (enc:α→D) (kid:α→List Int) (sz k:Nat) (hk:Nat.blt k sz=true) (H:Has B S l):Has B S (ay enc kid sz k (.d .aT) [] ([]:List α) none :: l):=by
 refine Has.pF (l0:=[]) (bs:=[_]) H (fun a ha=>?_) (by simp [gT,ay,bA.fp,aP,bH]) (fun id hid=>by simp [gT,ay,bA.fp,aP,bH] at hid)
 simp only [List.mem_cons,List.not_mem_nil,or_false] at ha
 subst ha
 exact eQ.2 ⟨rfl,by have:=Nat.le_of_ble_eq_true hk; omega,fun i x ws h=>by simp at h,rfl⟩
section
variable {C:fA} {ρ:Operand→Option AV} {x y:Operand} {t:Nat}
theorem yf {n el sz:Nat} {ps:Array (Nat × Operand)} {zd:D} {vs:List AV} {cs:List (List AV)} (H:Has B S l) (hr:C.rowT t=true) (he:aZ C.P t=some el) (ha:(dV C.P el).isSome=true) (hz:zeroOf C.P el=some zd) (hs:aK C.P el=sz) (hzl:zd.cells.length=sz) (hb:n * sz ≤ 16777216∧0 < n * sz)
  (hv:qG sz vs cs) (hn:vs.length=n) (hev:oK ρ ps=some (rz 0 vs)):∃ v S',oper C ρ S (.buildSlice t n ps)=some (.val v S')∧Has B S' (fF sz n v cs.flatten :: l):=by
 obtain ⟨k1,k2⟩:=hv.len
 subst hs
 have hn0:n ≠ 0:=fun q=>by subst q; simp at hb
 have f1:=BR hv [] ((List.replicate n zd.cells).flatten.map .d) (by simp) (by
  rw [List.length_map,List.length_flatten,List.map_replicate,List.sum_replicate_nat,hzl,hn])
 simp only [List.flatten_nil,List.nil_append,List.length_nil] at f1
 have hrow:uZ C t n=true:=by
  simp only [uZ,hr,Bool.true_and]
  cases hq:Nat.beq n 0
  ·
   rfl
  ·
   exact absurd (Nat.eq_of_beq_eq_true hq) hn0
 have hlen:∀ (cs:List (List AV)),(∀ c ∈ cs,c.length=aK C.P el)→cs.flatten.length=cs.length * aK C.P el:=fun cs=>by
  induction cs with
  | nil=>intro _; simp
  | cons c cs ih=>intro h; rw [List.flatten_cons,List.length_append,ih (fun d hd=>h d (List.mem_cons_of_mem _ hd)),h c List.mem_cons_self,List.length_cons,Nat.add_mul]; omega
 refine ⟨.dH S.nx 0 0 n n (aK C.P el),bQ S (.cells 0 cs.flatten),?_,H.new (.cells 0 cs.flatten) (a:=fF (aK C.P el) n (.dH S.nx 0 0 n n (aK C.P el)) cs.flatten) rfl (uC.2 ⟨_,_,rfl,by simp only [bQ,AL.aO,if_true],?_⟩)⟩
 ·
  simp only [oper,hrow,cond_true,hev,oO,he,hz]
  rw [if_pos ⟨hzl,hb.2,hb.1,ha⟩]
  simp only [H.zY,cond_false,f1,Option.map_some]
  rfl
 ·
  rw [hlen cs k2,← k1,hn]
theorem rf {el nb n:Nat} (hb:n * nb ≤ bound) (hnb:bytesOf C.P el=nb) (h0:(Nat.blt 0 nb && Nat.ble nb 65536)=true) (hz:eF C el=true):nE C el n=true:=by
 subst hnb
 simp only [Bool.and_eq_true] at h0
 simp only [nE,hz,Bool.and_true,Bool.and_eq_true]
 exact ⟨⟨Nat.ble_eq_true_of_le hb,h0.1⟩,h0.2⟩
theorem zX {sz n:Nat} {v:AV} {cs:List AV} (h:G9 sz n v cs S) (hpos:0 < sz):iR S sz v=some (cs,n):=by
 obtain ⟨id,g,rfl,h1,h2⟩:=h
 simp only [iR,nz,St.look,h1,Nat.beq_refl,cond_true]
 rw [if_pos ⟨trivial,hpos,by omega⟩,List.drop_zero,← h2,List.take_length]
section
variable {α:Type} {enc:α→D} {kid:α→List Int} {sz k:Nat} {v rv:AV} {wss:List (List AV)} {xs:List α} {z:α} {c:List AV}
theorem vR {u el nb:Nat} {r:List α} (H:Has B S (fF sz 1 rv c :: ay enc kid sz k v wss xs none :: l)) (hx:ρ x=some v) (hy:ρ y=some rv) (hnr:C.rowT t=true) (hu:iA C u=true) (he:aZ C.P t=some el) (hs:aK C.P el=sz)
  (hr:app nb xs [z]=some r) (hnb:bytesOf C.P el=nb) (h0:(Nat.blt 0 nb && Nat.ble nb 65536)=true) (hz:eF C el=true) (hnode:lg sz k (enc z) c) (hkw:jd k c=.d .aT) (hkid:kid z=[]) :
  ∃ v' S',oper C ρ S (.call { callee:=.builtin .append,args:=#[x,y],argTypes:=#[t,u] })=some (.val v' S')∧∃ wss',Has B S' (ay enc kid sz k v' wss' r none :: l):=by
 obtain ⟨hb,rfl⟩:=kY hr
 subst hs
 have hm:gq ρ [x,y]=some [v,rv]:=by simp only [gq,hx,hy,Option.map_some]
 have hp:=eQ.1 (H.ok (ay enc kid (aK C.P el) k v wss xs none) (by simp))
 have hraw:=uC.1 (H.ok (fF (aK C.P el) 1 rv c) (by simp))
 have hpos:0 < aK C.P el:=by have:=hp.2.1; omega
 have hsrc:=zX hraw hpos
 have hg:nE C el (xs.length + 1)=true:=rf (by simpa using hb) hnb h0 hz
 have H2:Has B S ([fF (aK C.P el) 1 rv c,ay enc kid (aK C.P el) k v wss xs none] ++ l):=H
 have hnd:=Has.nd0 H2
 have e2:gT [fF (aK C.P el) 1 rv c,ay enc kid (aK C.P el) k v wss xs none]=aP rv ++ (aP v ++ bH k none wss):=by simp [gT,ay,fF,bA.fp]
 rw [e2] at hnd
 have hsub:bH k none (wss ++ [c])=bH k none wss:=by rw [sF,hkw]; simp [aP]
 simp only [oper,hm,dW,List.getElem?_toArray,List.getElem?_cons_zero,List.getElem?_cons_succ,hu,if_true,he]
 obtain ⟨h1,h2,h3,h4⟩:=id hp
 have hnodes:∀ (i:Nat) (y:α) (ws:List AV),(xs ++ [z])[i]? = some y→(wss ++ [c])[i]? = some ws→lg (aK C.P el) k (enc y) ws∧((wss[i]? = some ws∧iw (jd k ws) (kid y) S)∨(jd k ws=.d .aT∧kid y=[])):=fun i y ws hy hw=>by
  by_cases hi:i < xs.length
  ·
   rw [List.getElem?_append_left hi] at hy
   rw [List.getElem?_append_left (by omega)] at hw
   exact ⟨(h3 i y ws hy hw).1,.inl ⟨hw,(h3 i y ws hy hw).2 (by simp)⟩⟩
  ·
   have hi':i=xs.length:=by
    have:=(List.getElem?_eq_some_iff.1 hy).1
    simp at this; omega
   subst hi'
   rw [List.getElem?_append_right (Nat.le_refl _)] at hy
   rw [← h1,List.getElem?_append_right (Nat.le_refl _)] at hw
   simp at hy hw
   subst hy; subst hw
   exact ⟨hnode,.inr ⟨hkw,hkid⟩⟩
 have finish:∀ (v':AV) (id g:Nat) (S':St),v'=.dH id g 0 (xs.length + 1) (xs.length + 1) (aK C.P el)→S'.H.get id=some (.cells g (wss ++ [c]).flatten)→(∀ j,j ≠ id→S'.H.get j=S.H.get j)→S'.T=S.T→S'.Wf→S.nx ≤ S'.nx→(id ∈ aP v∨S.nx ≤ id)→id ∉ bH k none wss →
   ∃ wss',Has B S' (ay enc kid (aK C.P el) k v' wss' (xs ++ [z]) none :: l):=fun v' id g S' hv hH hsame hT wf nx hin hout=>by
  subst hv
  refine ⟨wss ++ [c],Has.upd (bs:=[_]) H2 wf nx (fun j hj hlt=>⟨hsame j (fun q=>?_),by rw [hT]⟩) (fun a ha=>?_) ?_ (fun j hj=>?_)⟩
  ·
   subst q
   rcases hin with h | h
   ·
    exact hj (by rw [e2]; exact List.mem_append_right _ (List.mem_append_left _ h))
   ·
    omega
  ·
   simp only [List.mem_cons,List.not_mem_nil,or_false] at ha
   subst ha
   refine eQ.2 ⟨by simp [h1],h2,fun i y ws hy hw=>⟨(hnodes i y ws hy hw).1,fun _=>?_⟩,rfl,by simp,by simp,rfl,hH⟩
   rcases (hnodes i y ws hy hw).2 with ⟨q1,q2⟩ | ⟨q1,q2⟩
   ·
    refine q2.keep (fun j hj=>hsame j (fun q=>?_))
    subst q
    exact hout (iL.2 ⟨i,ws,q1,by simp,hj⟩)
   ·
    rw [q1,q2]; exact Ae
  ·
   rw [kW,hsub]
   simp only [aP,List.singleton_append,List.nodup_cons]
   refine ⟨hout,?_⟩
   have:=(List.nodup_append.1 hnd).2.1
   exact (List.nodup_append.1 this).2.1
  ·
   rw [kW,hsub] at hj
   rw [e2]
   simp only [aP,List.singleton_append,List.mem_cons] at hj
   rcases hj with rfl | hj
   ·
    rcases hin with h | h
    ·
     exact .inl (List.mem_append_right _ (List.mem_append_left _ h))
    ·
     exact .inr h
   ·
    exact .inl (List.mem_append_right _ (List.mem_append_right _ hj))
 have hltsub:∀ j ∈ bH k none wss,j < S.nx:=fun j hj=>Has.lt H (iK.2 ⟨ay enc kid (aK C.P el) k v wss xs none,by simp,by simp [ay,bA.fp,hj]⟩)
 revert h4
 split
 ·
  intro hxs
  subst hxs
  have hw0:wss=[]:=List.eq_nil_of_length_eq_zero (by simpa using h1)
  subst hw0
  refine ⟨.dH S.nx 0 0 1 1 (aK C.P el),{ S with H:=S.H.set S.nx (.cells 0 c),nx:=S.nx + 1 },?_,?_⟩
  ·
   simp only [hnr,cond_true,gF,hsrc]
   rw [if_neg (by decide),if_pos ⟨by decide,hpos,rfl,by simpa using hg⟩]
   simp
  ·
   exact finish _ S.nx 0 _ rfl (by simp [AL.aO]) (fun j hj=>by simp only [AL.aO]; rw [if_neg (Ne.symm hj)]) rfl (zx H.wf _) (Nat.le_succ _) (.inr (Nat.le_refl _)) (by simp [bH])
 ·
  rename_i id g off len lim sz'
  rintro ⟨rfl,rfl,rfl,rfl,hH⟩
  have hfl:∀ (q:List (List AV)),(∀ ws ∈ q,ws.length=aK C.P el)→q.flatten.length=q.length * aK C.P el:=fun q=>by
   induction q with
   | nil=>intro _; simp
   | cons a q ih=>intro hq; rw [List.flatten_cons,List.length_append,ih (fun w hw=>hq w (List.mem_cons_of_mem _ hw)),hq a List.mem_cons_self,List.length_cons,Nat.add_mul]; omega
  have hlen:wss.flatten.length=xs.length * aK C.P el:=by rw [hfl wss hp.lens,h1]
  have hlt:id < S.nx:=Has.lt H (iK.2 ⟨ay enc kid (aK C.P el) k (.dH id g 0 xs.length xs.length (aK C.P el)) wss xs none,by simp,by simp [ay,bA.fp,aP]⟩)
  refine ⟨.dH id (g + 1) 0 (xs.length + 1) (xs.length + 1) (aK C.P el),{ S with H:=S.H.set id (.cells (g + 1) (wss.flatten.take (xs.length * aK C.P el) ++ c)) },?_,?_⟩
  ·
   simp only [iX,hsrc,St.look,hH,Nat.beq_refl,cond_true]
   rw [if_pos ⟨trivial,hpos,by omega⟩,if_neg (by decide),if_neg (by omega),if_pos ⟨trivial,hg⟩]
   rfl
  ·
   refine finish _ id (g + 1) _ rfl ?_ (fun j hj=>by simp only [AL.aO]; rw [if_neg (Ne.symm hj)]) rfl (wf_set H.wf hlt _) (Nat.le_refl _) (.inl (by simp [aP])) ?_
   ·
    simp only [AL.aO,if_true]
    rw [← hlen,List.take_length,List.flatten_append]; simp
   ·
    have:=(List.nodup_append.1 hnd).2.1
    simp only [aP,List.singleton_append,List.nodup_cons] at this
    exact this.1
 ·
  exact fun q=>q.elim
end
section
variable {w rv:AV} {ys r:List Int} {n:Int}
theorem wN {u el nb:Nat} (H:Has B S (fF 1 1 rv [iE n] :: aG w ys :: l)) (hx:ρ x=some w) (hy:ρ y=some rv) (hnr:C.rowT t=true) (hu:iA C u=true) (he:aZ C.P t=some el) (hs:aK C.P el=1)
  (hr:app nb ys [n]=some r) (hnb:bytesOf C.P el=nb) (h0:(Nat.blt 0 nb && Nat.ble nb 65536)=true) (hz:eF C el=true) :
  ∃ w' S',oper C ρ S (.call { callee:=.builtin .append,args:=#[x,y],argTypes:=#[t,u] })=some (.val w' S')∧Has B S' (aG w' r :: l):=by
 obtain ⟨hb,rfl⟩:=kY hr
 have hm:gq ρ [x,y]=some [w,rv]:=by simp only [gq,hx,hy,Option.map_some]
 have hp:=fG.1 (H.ok (aG w ys) (by simp))
 have hraw:=uC.1 (H.ok (fF 1 1 rv [iE n]) (by simp))
 have hsrc:=zX hraw (by decide)
 have hg:nE C el (ys.length + 1)=true:=rf (by simpa using hb) hnb h0 hz
 have H2:Has B S ([fF 1 1 rv [iE n],aG w ys] ++ l):=H
 have e2:gT [fF 1 1 rv [iE n],aG w ys]=aP rv ++ aP w:=by simp [gT,aG,fF,bA.fp]
 have finish:∀ (w':AV) (id g lim:Nat) (cs:List AV) (S':St),w'=.dH id g 0 (ys.length + 1) lim 1→0 < lim→cs.length=lim→cs.take (ys.length + 1)=(ys ++ [n]).map iE→S'.H.get id=some (.cells g cs)→(∀ j,j ≠ id→S'.H.get j=S.H.get j)→S'.T=S.T→S'.Wf→S.nx ≤ S'.nx→(id ∈ aP w∨S.nx ≤ id) →
   Has B S' (aG w' (ys ++ [n]) :: l):=fun w' id g lim cs S' hv hl hcl hct hH hsame hT wf nx hin=>by
  subst hv
  refine Has.upd (bs:=[_]) H2 wf nx (fun j hj hlt=>⟨hsame j (fun q=>?_),by rw [hT]⟩) (fun a ha=>?_) (by simp [gT,aG,bA.fp,aP]) (fun j hj=>?_)
  ·
   subst q
   rcases hin with h | h
   ·
    exact hj (by rw [e2]; exact List.mem_append_right _ h)
   ·
    omega
  ·
   simp only [List.mem_cons,List.not_mem_nil,or_false] at ha
   subst ha
   exact fG.2 ⟨rfl,rfl,by simp,hl,cs,hH,hcl,hct⟩
  ·
   have:j=id:=by simpa [gT,aG,bA.fp,aP] using hj
   subst this
   rcases hin with h | h
   ·
    exact .inl (by rw [e2]; exact List.mem_append_right _ h)
   ·
    exact .inr h
 simp only [oper,hm,dW,List.getElem?_toArray,List.getElem?_cons_zero,List.getElem?_cons_succ,hu,if_true,he]
 unfold iw at hp
 split at hp
 ·
  subst hp
  refine ⟨.dH S.nx 0 0 1 1 1,{ S with H:=S.H.set S.nx (.cells 0 [iE n]),nx:=S.nx + 1 },?_,?_⟩
  ·
   simp only [hnr,cond_true,gF,hs,hsrc]
   rw [if_neg (by decide),if_pos ⟨by decide,by decide,rfl,by simpa using hg⟩]
   rfl
  ·
   exact finish _ S.nx 0 1 _ _ rfl (by decide) rfl rfl (by simp [AL.aO]; rfl) (fun j hj=>by simp only [AL.aO]; rw [if_neg (Ne.symm hj)]) rfl (zx H.wf _) (Nat.le_succ _) (.inr (Nat.le_refl _))
 ·
  rename_i id g off len lim sz'
  obtain ⟨rfl,rfl,rfl,hlim,cs,hH,hcl,hct⟩:=hp
  have hle:ys.length ≤ cs.length:=by have:=congrArg List.length hct; simp at this; omega
  have hlt:id < S.nx:=Has.lt H (iK.2 ⟨aG (.dH id g 0 ys.length lim 1) ys,by simp,by simp [aG,bA.fp,aP]⟩)
  by_cases hroom:ys.length + 1 ≤ cs.length
  ·
   refine ⟨.dH id g 0 (ys.length + 1) lim 1,{ S with H:=S.H.set id (.cells g (cs.set ys.length (iE n))) },?_,?_⟩
   ·
    simp only [iX,hs,hsrc,St.look,hH,Nat.beq_refl,cond_true]
    rw [if_pos ⟨trivial,by decide,by omega⟩,if_neg (by decide),if_pos (by omega)]
    simp only [Option.map_some,setAt]
    rw [show 0 + ys.length * 1=ys.length by omega,show max lim (ys.length + 1)=lim by omega]
   ·
    refine finish _ id g lim (cs.set ys.length (iE n)) _ rfl hlim (by simp [hcl]) ?_ (by simp only [AL.aO,if_true]) (fun j hj=>by simp only [AL.aO]; rw [if_neg (Ne.symm hj)]) rfl (wf_set H.wf hlt _) (Nat.le_refl _) (.inl (by simp [aP]))
    rw [List.take_add_one,List.take_set_of_le (Nat.le_refl _),hct,List.getElem?_set_self (by omega)]
    simp
  ·
   refine ⟨.dH id (g + 1) 0 (ys.length + 1) (ys.length + 1) 1,{ S with H:=S.H.set id (.cells (g + 1) (cs.take (ys.length * 1) ++ [iE n])) },?_,?_⟩
   ·
    simp only [iX,hs,hsrc,St.look,hH,Nat.beq_refl,cond_true]
    rw [if_pos ⟨trivial,by decide,by omega⟩,if_neg (by decide),if_neg (by omega),if_pos ⟨trivial,hg⟩]
    rfl
   ·
    refine finish _ id (g + 1) (ys.length + 1) (cs.take (ys.length * 1) ++ [iE n]) _ rfl (by omega) (by simp; omega) ?_ (by simp only [AL.aO,if_true]) (fun j hj=>by simp only [AL.aO]; rw [if_neg (Ne.symm hj)]) rfl (wf_set H.wf hlt _) (Nat.le_refl _) (.inl (by simp [aP]))
    rw [Nat.mul_one,hct,List.take_of_length_le (by simp)]
    simp
 ·
  exact hp.elim
theorem qJ {el:Nat} {i:Int} {kk:IntKind} {q:Nat} (H:Has B S l) (hi:l[q]? = some (aG w ys)) (hz:idx ys i=some n) (hx:ρ x=some w) (hy:ρ y=some (.d (.int kk i)))
  (he:aZ C.P t=some el) (ha:(dV C.P el).isSome=true) (hs:aK C.P el=1):oper C ρ S (.indexAddr t x y)=some (.val (bu w i.toNat 0) S):=by
 have hp:=fG.1 (H.at hi)
 obtain ⟨h0,h1⟩:=dC hz
 unfold iw at hp
 split at hp
 ·
  subst hp; simp at h1
 ·
  rename_i id g off len lim sz'
  obtain ⟨rfl,rfl,rfl,hlim,cs,hH,hcl,hct⟩:=hp
  refine bE hx hy ?_
  simp only [gV,he,h0,ha,decide_true,Bool.and_self,if_true]
  rw [if_pos ⟨(List.getElem?_eq_some_iff.1 h1).1,hs.symm⟩,hs]
  simp [bu]
 ·
  exact hp.elim
theorem pz {i:Int} {q:Nat} (H:Has B S l) (hi:l[q]? = some (aG w ys)) (hz:idx ys i=some n) (h:ρ x=some (bu w i.toNat 0)) (ha:dV C.P t=some false):oper C ρ S (.load t x)=some (.val (.d (.int .i64 n)) S):=by
 have hp:=fG.1 (H.at hi)
 obtain ⟨h0,h1⟩:=dC hz
 unfold iw at hp
 split at hp
 ·
  subst hp; simp at h1
 ·
  rename_i id g off len lim sz'
  obtain ⟨rfl,rfl,rfl,hlim,cs,hH,hcl,hct⟩:=hp
  have hlt:=(List.getElem?_eq_some_iff.1 h1).1
  have hc:cs[i.toNat]? = some (iE n):=by
   have:(cs.take ys.length)[i.toNat]? = some (iE n):=by rw [hct,List.getElem?_map,h1]; rfl
   rwa [List.getElem?_take_of_lt hlt] at this
  have:part C.P t cs (i.toNat * 1 + 0)=some (iE n):=by
   unfold part; rw [ha]; simpa using hc
  simp only [bu] at h
  simp only [oper,h,kM,St.look,hH,Nat.beq_refl,cond_true,this,Option.map_some]
  rfl
 ·
  exact hp.elim
theorem AY {el:Nat} {i:Int} {kk:IntKind} {hi:Operand} (H:Has B S (aG w ys :: l)) (hx:ρ x=some w) (hh:ρ hi=some (.d (.int kk i))) (he:aZ C.P t=some el) (hu:(C.P.underlying el).isSome=true) (hs:aK C.P el=1) (hc:cut ys 0 i=some r) :
  ∃ w',oper C ρ S (.slice t x none (some hi) none)=some (.val w' S)∧Has B S (aG w' r :: l):=by
 have hp:=fG.1 (H.ok _ List.mem_cons_self)
 obtain ⟨⟨_,h0,h1⟩,rfl⟩:=mi hc
 have again:∀ w',aP w'=aP w→iw w' ((ys.take i.toNat).drop (0:Int).toNat) S→Has B S (aG w' ((ys.take i.toNat).drop (0:Int).toNat) :: l):=fun w' e q=>by
  refine Has.pF (l0:=[_]) (bs:=[_]) H (fun a ha=>?_) ?_ (fun id hid=>?_)
  ·
   simp only [List.mem_cons,List.not_mem_nil,or_false] at ha
   subst ha; exact fG.2 q
  ·
   have:=Has.nd0 (l0:=[_]) H
   simpa [gT,aG,bA.fp,e] using this
  ·
   simpa [gT,aG,bA.fp,e] using hid
 unfold iw at hp
 split at hp
 ·
  subst hp
  have hi0:i=0:=by simp at h1; omega
  subst hi0
  refine ⟨.d .aT,?_,again _ rfl rfl⟩
  simp [oper,hx,tK,hh,jE,rG,he,uK,hu,fZ,asNat]
 ·
  rename_i id g off len lim sz'
  obtain ⟨rfl,rfl,rfl,hlim,cs,hH,hcl,hct⟩:=hp
  have hle:ys.length ≤ cs.length:=by have:=congrArg List.length hct; simp at this; omega
  refine ⟨.dH id g 0 i.toNat lim 1,?_,again _ rfl ⟨rfl,rfl,by simp; omega,hlim,cs,hH,hcl,?_⟩⟩
  ·
   simp only [oper,hx,tK,hh,jE,pg,he,fZ,asNat,if_pos h0]
   rw [if_pos ⟨hs.symm,hu,by decide⟩,if_pos ⟨Nat.zero_le _,by omega⟩,if_neg (by omega)]
   simp
  ·
   simp only [Int.toNat_zero,List.drop_zero,List.map_take]
   rw [← hct,List.take_take,Nat.min_eq_left (by omega)]
 ·
  exact hp.elim
theorem Ci.K5 {q:Nat} (H:Has B S l) (hi:l[q]? = some (aG w ys)):Ci R S w (.sl (ys.map (D.int .i64)) false):=by
 intro cx ww u h1 h2
 have hp:=fG.1 (H.at hi)
 unfold iw at hp
 split at hp
 ·
  subst hp; exact (Ip _ _ _ _ h2).dd.GR
 ·
  rename_i id g off len lim sz'
  obtain ⟨rfl,rfl,rfl,hlim,cs,hH,hcl,hct⟩:=hp
  have e:ys.length=(ys.map (D.int .i64)).length:=by simp
  rw [e] at h2
  refine Ex h1 (cs0:=cs) (sz:=1) (fun i j x c hx hc hj=>?_) hH (by decide) (fun x hx=>?_) (fun b o v q1 q2=>⟨q2,fun q=>q⟩) (fun o q=>q) h2
  ·
   rw [List.getElem?_map,Option.map_eq_some_iff] at hx
   obtain ⟨n,hn,rfl⟩:=hx
   have hj0:j=0:=by omega
   subst hj0
   have hc:D.int .i64 n=c:=by simpa [D.cells] using hc
   subst hc
   refine ⟨iE n,?_,.refl _⟩
   have hlt:=(List.getElem?_eq_some_iff.1 hn).1
   have:(cs.take ys.length)[i]? = some (iE n):=by rw [hct,List.getElem?_map,hn]; rfl
   rw [List.getElem?_take_of_lt hlt] at this
   simpa using this
  ·
   obtain ⟨n,hn,rfl⟩:=List.mem_map.1 hx
   exact ⟨rfl,rfl⟩
 ·
  exact hp.elim
end
end
end
end
end Go.Ev

namespace Go.Ev
noncomputable section
set_option linter.unusedVariables false
set_option linter.unusedSimpArgs false
variable {R:bN} {P:Program} {B:St}
section steps
variable {C:fA} {nt:Nat} {ops:Array Oper} {rest:List Oper} {e:Env} {S:St} {Q:Stp→Prop} {l:List bA} {t ty:Nat} {p:String} {af:Array Edge} {g:Option (Nat × Bool)} {x y:Operand}
section
variable {α:Type} {enc:α→D} {kid:α→List Int} {sz k:Nat} {v:AV} {wss:List (List AV)} {xs:List α} {hole:Option Nat} {z:α} {n:Int} {tt:Nat}
theorem ai.jo {q off:Nat} {d:D} (H:Has B S l) (hw:bO ops e { dst:=some t,op:=.load tt x,type:=ty,pos:=p,after:=af,guard:=g }=some true) (hi:l[q]? = some (ay enc kid sz k v wss xs hole)) (hz:idx xs n=some z) (h:bK e x=some (bu v n.toNat off)) (ha:dV C.P tt=some false) (hk:Nat.beq k off=false) (hd:(enc z).cells[off]? = some d) (ht:Nat.blt t nt=true)
  (kk:ai R C nt ops rest ((t,.d d) :: e) S Q) :
  ai R C nt ops ({ dst:=some t,op:=.load tt x,type:=ty,pos:=p,after:=af,guard:=g } :: rest) e S Q:=by
 obtain ⟨w,h1,h2⟩:=wJ (C:=C) (ρ:=bK e) H hi hz h ha hk hd
 exact ai.val hw h1 ht (ai.less h2 kk)
theorem ai.yP {q:Nat} {cs:List AV} (H:Has B S l) (hw:bO ops e { dst:=some t,op:=.load tt x,type:=ty,pos:=p,after:=af,guard:=g }=some true) (hi:l[q]? = some (ay enc kid sz k v wss xs none)) (hz:idx xs n=some z) (h:bK e x=some (bu v n.toNat 0)) (ha:dV C.P tt=some true) (hs:aK C.P tt=sz) (hc:((enc z).cells.map AV.d).set k (gX k wss n.toNat)=cs) (ht:Nat.blt t nt=true)
  (kk:ai R C nt ops rest ((t,Ev.eY cs) :: e) S Q) :
  ai R C nt ops ({ dst:=some t,op:=.load tt x,type:=ty,pos:=p,after:=af,guard:=g } :: rest) e S Q:=by
 subst hc
 obtain ⟨w,h1,h2⟩:=wW (C:=C) (ρ:=bK e) H hi hz h ha hs
 exact ai.val hw h1 ht (ai.less h2 kk)
theorem ai.nU {m el:Nat} {ps:Array (Nat × Operand)} {zd:D} {vs:List AV} {cs:List (List AV)} (H:Has B S l) (hw:bO ops e { dst:=some t,op:=.buildSlice tt m ps,type:=ty,pos:=p,after:=af,guard:=g }=some true) (hr:C.rowT tt=true) (he:aZ C.P tt=some el) (ha:(dV C.P el).isSome=true) (hz:zeroOf C.P el=some zd) (hs:aK C.P el=sz) (hzl:zd.cells.length=sz) (hb:m * sz ≤ 16777216∧0 < m * sz)
  (hv:qG sz vs cs) (hn:vs.length=m) (hev:oK (bK e) ps=some (rz 0 vs)) (ht:Nat.blt t nt=true)
  (kk:∀ v S',Has B S' (fF sz m v cs.flatten :: l)→ai R C nt ops rest ((t,v) :: e) S' Q) :
  ai R C nt ops ({ dst:=some t,op:=.buildSlice tt m ps,type:=ty,pos:=p,after:=af,guard:=g } :: rest) e S Q:=by
 obtain ⟨v',S',h1,h2⟩:=yf (C:=C) (ρ:=bK e) H hr he ha hz hs hzl hb hv hn hev
 exact ai.val hw h1 ht (kk v' S' h2)
theorem ai.Cc {t1 u el nb:Nat} {r:List α} {rv:AV} {c:List AV} (H:Has B S (fF sz 1 rv c :: ay enc kid sz k v wss xs none :: l)) (hw:bO ops e { dst:=some t,op:=.call { callee:=.builtin .append,args:=#[x,y],argTypes:=#[t1,u] },type:=ty,pos:=p,after:=af,guard:=g }=some true)
  (hx:bK e x=some v) (hy:bK e y=some rv) (hnr:C.rowT t1=true) (hu:iA C u=true) (he:aZ C.P t1=some el) (hs:aK C.P el=sz)
  (hr:Ev.app nb xs [z]=some r) (hnb:bytesOf C.P el=nb) (h0:(Nat.blt 0 nb && Nat.ble nb 65536)=true) (hz:eF C el=true) (hnode:lg sz k (enc z) c) (hkw:jd k c=.d .aT) (hkid:kid z=[]) (ht:Nat.blt t nt=true)
  (kk:∀ v' wss' S',Has B S' (ay enc kid sz k v' wss' r none :: l)→ai R C nt ops rest ((t,v') :: e) S' Q) :
  ai R C nt ops ({ dst:=some t,op:=.call { callee:=.builtin .append,args:=#[x,y],argTypes:=#[t1,u] },type:=ty,pos:=p,after:=af,guard:=g } :: rest) e S Q:=by
 obtain ⟨v',S',h1,wss',h2⟩:=vR (C:=C) (ρ:=bK e) H hx hy hnr hu he hs hr hnb h0 hz hnode hkw hkid
 exact ai.val hw h1 ht (kk v' wss' S' h2)
end
section
variable {w:AV} {ys r:List Int} {n:Int} {tt:Nat}
theorem ai.yS {t1 u el nb:Nat} {rv:AV} (H:Has B S (fF 1 1 rv [iE n] :: aG w ys :: l)) (hw:bO ops e { dst:=some t,op:=.call { callee:=.builtin .append,args:=#[x,y],argTypes:=#[t1,u] },type:=ty,pos:=p,after:=af,guard:=g }=some true)
  (hx:bK e x=some w) (hy:bK e y=some rv) (hnr:C.rowT t1=true) (hu:iA C u=true) (he:aZ C.P t1=some el) (hs:aK C.P el=1)
  (hr:Ev.app nb ys [n]=some r) (hnb:bytesOf C.P el=nb) (h0:(Nat.blt 0 nb && Nat.ble nb 65536)=true) (hz:eF C el=true) (ht:Nat.blt t nt=true)
  (kk:∀ w' S',Has B S' (aG w' r :: l)→ai R C nt ops rest ((t,w') :: e) S' Q) :
  ai R C nt ops ({ dst:=some t,op:=.call { callee:=.builtin .append,args:=#[x,y],argTypes:=#[t1,u] },type:=ty,pos:=p,after:=af,guard:=g } :: rest) e S Q:=by
 obtain ⟨v',S',h1,h2⟩:=wN (C:=C) (ρ:=bK e) H hx hy hnr hu he hs hr hnb h0 hz
 exact ai.val hw h1 ht (kk v' S' h2)
theorem ai.Ib {el:Nat} {i:Int} {kk:IntKind} {hi:Operand} (H:Has B S (aG w ys :: l)) (hw:bO ops e { dst:=some t,op:=.slice tt x none (some hi) none,type:=ty,pos:=p,after:=af,guard:=g }=some true) (hx:bK e x=some w) (hh:bK e hi=some (.d (.int kk i))) (he:aZ C.P tt=some el) (hu:(C.P.underlying el).isSome=true) (hs:aK C.P el=1) (hc:cut ys 0 i=some r) (ht:Nat.blt t nt=true)
  (k:∀ w',Has B S (aG w' r :: l)→ai R C nt ops rest ((t,w') :: e) S Q) :
  ai R C nt ops ({ dst:=some t,op:=.slice tt x none (some hi) none,type:=ty,pos:=p,after:=af,guard:=g } :: rest) e S Q:=by
 obtain ⟨v',h1,h2⟩:=AY (C:=C) (ρ:=bK e) H hx hh he hu hs hc
 exact ai.val hw h1 ht (k v' h2)
end
end steps
def EM (ys:List Int) (i c:Int):Option (List Int):=if 0 ≤ i∧i.toNat ≤ ys.length∧(ys.length + 1) * 8 ≤ 140737488355328 then some (ys.take i.toNat ++ c :: ys.drop i.toNat) else none
theorem df.ins {f:Nat} (h:Aa R P f lV) {w rv:AV} {ys r:List Int} {i c:Int} (hr:EM ys i c=some r):df R P f [w,.d (.int .i64 i),rv] [fF 1 1 rv [iE c],aG w ys] (fun v l=>l=[aG v r]):=by
 intro B S H
 unfold EM at hr
 split at hr
 rotate_left 1
 ·
  cases hr
 rename_i hc
 cases hr
 obtain ⟨h0,h1,h2⟩:=hc
 have hp:=fG.1 (H.ok (aG w ys) (by simp))
 obtain ⟨id2,g2,rfl,hH2,hl2⟩:=uC.1 (H.ok (fF 1 1 rv [iE c]) (by simp))
 have H2:Has B S ([fF 1 1 (.dH id2 g2 0 1 1 1) [iE c],aG w ys] ++ []):=by simpa using H
 have e2:gT [fF 1 1 (.dH id2 g2 0 1 1 1) [iE c],aG w ys]=id2 :: aP w:=by simp [gT,aG,fF,bA.fp,aP]
 have hnd:=Has.nd0 H2
 rw [e2,List.nodup_cons] at hnd
 have finish:∀ (w':AV) (id g:Nat) (cs:List AV) (S':St),lV [w,.d (.int .i64 i),.dH id2 g2 0 1 1 1] S=some (w',S')→w'=.dH id g 0 (ys.length + 1) (ys.length + 1) 1→cs=(ys.take i.toNat ++ c :: ys.drop i.toNat).map iE→S'.H.get id=some (.cells g cs)→(∀ j,j ≠ id→S'.H.get j=S.H.get j)→S'.T=S.T→S'.Wf→S.nx ≤ S'.nx→(id ∈ aP w∨S.nx ≤ id) →
   gZ R P f [w,.d (.int .i64 i),.dH id2 g2 0 1 1 1] S (fun o=>o.1=none∧∃ v l,Less v o.2.1∧l=[aG v (ys.take i.toNat ++ c :: ys.drop i.toNat)]∧Has B o.2.2 l):=fun w' id g cs S' hprim hv hcs hH hsame hT wf nx hin=>by
  subst hv
  refine (gZ.GX h hprim).mono (fun o ho=>?_)
  subst ho
  refine ⟨rfl,_,_,.refl _,rfl,?_⟩
  have:=Has.upd (bs:=[aG (.dH id g 0 (ys.length + 1) (ys.length + 1) 1) (ys.take i.toNat ++ c :: ys.drop i.toNat)]) H2 wf nx (fun j hj hlt=>⟨hsame j (fun q=>?_),by rw [hT]⟩) (fun a ha=>?_) (by simp [gT,aG,bA.fp,aP]) (fun j hj=>?_)
  ·
   simpa using this
  ·
   subst q
   rcases hin with h | h
   ·
    exact hj (by rw [e2]; exact List.mem_cons_of_mem _ h)
   ·
    omega
  ·
   simp only [List.mem_cons,List.not_mem_nil,or_false] at ha
   subst ha
   have hl:(ys.take i.toNat ++ c :: ys.drop i.toNat).length=ys.length + 1:=by simp; omega
   refine fG.2 ⟨rfl,rfl,hl.symm,by omega,cs,hH,by rw [hcs,List.length_map,hl],?_⟩
   rw [hcs,List.take_of_length_le (by rw [List.length_map,hl]; omega)]
  ·
   have:j=id:=by simpa [gT,aG,bA.fp,aP] using hj
   subst this
   rcases hin with h | h
   ·
    exact .inl (by rw [e2]; exact List.mem_cons_of_mem _ h)
   ·
    exact .inr h
 unfold iw at hp
 split at hp
 ·
  subst hp
  have hi0:i=0:=by simp at h1; omega
  subst hi0
  refine finish _ S.nx 0 [iE c] { S with H:=S.H.set S.nx (.cells 0 [iE c]),nx:=S.nx + 1 } ?_ rfl rfl (by simp [AL.aO]) (fun j hj=>by simp only [AL.aO]; rw [if_neg (Ne.symm hj)]) rfl (zx H.wf _) (Nat.le_succ _) (.inr (Nat.le_refl _))
  simp only [lV,St.look,hH2,Nat.beq_refl,cond_true]
  rw [if_pos ⟨trivial,trivial,trivial,by decide,by simp,by decide⟩]
  rfl
 ·
  rename_i id g off len lim sz'
  obtain ⟨rfl,rfl,rfl,hlim,cs,hH,hcl,hct⟩:=hp
  have hle:ys.length ≤ cs.length:=by have:=congrArg List.length hct; simp at this; omega
  have hne:id2 ≠ id:=fun q=>hnd.1 (by subst q; simp [aP])
  have hlt:id < S.nx:=Has.lt H (iK.2 ⟨aG (.dH id g 0 ys.length lim 1) ys,by simp,by simp [aG,bA.fp,aP]⟩)
  refine finish _ id (g + 1) ((cs.take ys.length).take i.toNat ++ ([iE c].drop 0).take 1 ++ (cs.take ys.length).drop i.toNat) { S with H:=S.H.set id (.cells (g + 1) ((cs.take ys.length).take i.toNat ++ ([iE c].drop 0).take 1 ++ (cs.take ys.length).drop i.toNat)) } ?_ rfl ?_ (by simp only [AL.aO,if_true]) (fun j hj=>by simp only [AL.aO]; rw [if_neg (Ne.symm hj)]) rfl (wf_set H.wf hlt _) (Nat.le_refl _) (.inl (by simp [aP]))
  ·
   simp only [lV,St.look,hH,hH2,Nat.beq_refl,cond_true]
   rw [if_pos ⟨trivial,trivial,trivial,trivial,hne,h0,h1,hle,by decide,by simp,h2⟩]
  ·
   rw [hct]
   simp
 ·
  exact hp.elim
def kI (w:AV) (i:Nat):AV:=match w with
 | .dH id g off len lim sz=>.dH id g off i lim sz
 | x=>x
def lX (w:AV) (j:Nat):AV:=match w with
 | .dH id g off len lim sz=>if j=lim then .d (.sl [] false) else .dH id g (off + j * sz) (len - j) (lim - j) sz
 | x=>x
def su (w:AV) (i j:Nat):AV:=match w with
 | .dH id g off len lim sz=>if i=lim then .d (.sl [] false) else .dH id g (off + i * sz) (j - i) (lim - i) sz
 | x=>x
def DJ (w:AV) (n m:Nat):Prop:=∃ id g lim,w=.dH id g 0 n lim 1∧n ≤ m∧m ≤ lim
def EB (ys:List Int) (i j:Int):Option (List Int):=if 0 ≤ i∧i < j∧j ≤ ys.length then some (ys.take i.toNat ++ ys.drop j.toNat) else none
section
variable {C:fA} {ρ:Operand→Option AV} {S:St} {l:List bA} {x lo hi mx:Operand} {t el q:Nat} {w:AV} {ys:List Int} {i j:Int} {k1 k2 k3:IntKind}
theorem iw.dH {n:Int} (h:iw w ys S) (hn:0 < ys.length):∃ id g lim cs,w=.dH id g 0 ys.length lim 1∧0 < lim∧S.H.get id=some (.cells g cs)∧cs.length=lim∧cs.take ys.length=ys.map iE∧ys.length ≤ lim:=by
 unfold iw at h
 split at h
 ·
  subst h; simp at hn
 ·
  obtain ⟨rfl,rfl,rfl,h4,cs,h5,h6,h7⟩:=h
  exact ⟨_,_,_,cs,rfl,h4,h5,h6,h7,by have:=congrArg List.length h7; simp at this; omega⟩
 ·
  exact h.elim
theorem CZ (H:Has B S l) (hq:l[q]? = some (aG w ys)) (hx:ρ x=some w) (hh:ρ hi=some (.d (.int k1 i))) (he:aZ C.P t=some el) (hu:(C.P.underlying el).isSome=true) (hs:aK C.P el=1) (hb:0 ≤ i∧i < j∧j ≤ ys.length) :
  oper C ρ S (.slice t x none (some hi) none)=some (.val (kI w i.toNat) S):=by
 obtain ⟨id,g,lim,cs,rfl,h1,h2,h3,h4,h5⟩:=(fG.1 (H.at hq)).dH (n:=0) (by omega)
 simp only [oper,hx,tK,hh,jE,pg,he,fZ,asNat,if_pos hb.1]
 rw [if_pos ⟨hs.symm,hu,by decide⟩,if_pos ⟨Nat.zero_le _,by omega⟩,if_neg (by omega)]
 simp [kI]
theorem zQ (H:Has B S l) (hq:l[q]? = some (aG w ys)) (hx:ρ x=some w) (hh:ρ lo=some (.d (.int k1 j))) (he:aZ C.P t=some el) (hu:(C.P.underlying el).isSome=true) (hs:aK C.P el=1) (hb:0 ≤ i∧i < j∧j ≤ ys.length) :
  oper C ρ S (.slice t x (some lo) none none)=some (.val (lX w j.toNat) S):=by
 obtain ⟨id,g,lim,cs,rfl,h1,h2,h3,h4,h5⟩:=(fG.1 (H.at hq)).dH (n:=0) (by omega)
 simp only [oper,hx,tK,hh,jE,pg,he,fZ,asNat,if_pos (show (0:Int) ≤ j by omega)]
 rw [if_pos ⟨hs.symm,hu,by decide⟩,if_pos ⟨by omega,by omega⟩]
 simp only [lX,Option.map_some]
 split <;> rfl
theorem DX (H:Has B S l) (hq:l[q]? = some (aG w ys)) (hx:ρ x=some w) (hl:ρ lo=some (.d (.int k1 i))) (hh:ρ hi=some (.d (.int k2 j))) (hm:ρ mx=some (.d (.int k3 (ys.length:Int)))) (he:aZ C.P t=some el) (hu:(C.P.underlying el).isSome=true) (hs:aK C.P el=1) (hb:0 ≤ i∧i < j∧j ≤ ys.length) :
  oper C ρ S (.slice t x (some lo) (some hi) (some mx))=some (.val .any S):=by
 obtain ⟨id,g,lim,cs,rfl,h1,h2,h3,h4,h5⟩:=(fG.1 (H.at hq)).dH (n:=0) (by omega)
 simp only [oper,hx,tK,hl,hh,hm,jE,pg,he,fZ,asNat,if_pos hb.1,if_pos (show (0:Int) ≤ j by omega),if_pos (show (0:Int) ≤ (ys.length:Int) by omega)]
 rw [if_pos ⟨hs.symm,hu,by decide⟩]
 show (Option.map _ (if _ then _ else _))=_
 rw [if_pos ⟨rfl,by omega,by omega,by simpa using h5⟩,if_neg (by omega)]
 rfl
theorem Bz (H:Has B S l) (hq:l[q]? = some (aG w ys)) (hx:ρ x=some w) (hl:ρ lo=some (.d (.int k1 (ys.length:Int)))) (hh:ρ hi=some (.d (.int k2 j))) (he:aZ C.P t=some el) (hu:(C.P.underlying el).isSome=true) (hs:aK C.P el=1) (h0:0 ≤ j) (hb:DJ w ys.length j.toNat) :
  oper C ρ S (.slice t x (some lo) (some hi) none)=some (.val (su w ys.length j.toNat) S):=by
 obtain ⟨id,g,lim,rfl,h1,h2⟩:=hb
 simp only [oper,hx,tK,hl,hh,jE,pg,he,fZ,asNat,if_pos h0,if_pos (show (0:Int) ≤ (ys.length:Int) by omega)]
 rw [if_pos ⟨hs.symm,hu,by decide⟩]
 simp only [Int.toNat_natCast]
 rw [if_pos ⟨by omega,h2⟩]
 simp only [su,Option.map_some]
 split <;> rfl
end
section
variable {C:fA} {nt:Nat} {ops:Array Oper} {rest:List Oper} {e:Env} {S:St} {Q:Stp→Prop} {l:List bA} {t ty:Nat} {p:String} {af:Array Edge} {g:Option (Nat × Bool)} {x y:Operand} {w:AV} {ys r:List Int} {i j:Int}
theorem ai.Hw {t1 u el:Nat} (H:Has B S (aG w ys :: l)) (hw:bO ops e { dst:=some t,op:=.call { callee:=.builtin .append,args:=#[x,y],argTypes:=#[t1,u] },type:=ty,pos:=p,after:=af,guard:=g }=some true)
  (hx:bK e x=some (kI w i.toNat)) (hy:bK e y=some (lX w j.toNat)) (hu:iA C u=true) (he:aZ C.P t1=some el) (hs:aK C.P el=1) (hr:EB ys i j=some r) (ht:Nat.blt t nt=true)
  (k:∀ S',Has B S' (aG (kI w r.length) r :: l)→DJ (kI w r.length) r.length ys.length→ai R C nt ops rest ((t,kI w r.length) :: e) S' Q) :
  ai R C nt ops ({ dst:=some t,op:=.call { callee:=.builtin .append,args:=#[x,y],argTypes:=#[t1,u] },type:=ty,pos:=p,after:=af,guard:=g } :: rest) e S Q:=by
 unfold EB at hr
 split at hr
 rotate_left 1
 ·
  cases hr
 rename_i hb
 cases hr
 obtain ⟨b0,b1,b2⟩:=hb
 obtain ⟨id,gg,lim,cs,rfl,h1,h2,h3,h4,h5⟩:=(fG.1 (H.ok _ List.mem_cons_self)).dH (n:=0) (by omega)
 have hlen:(ys.take i.toNat ++ ys.drop j.toNat).length=i.toNat + (ys.length - j.toNat):=by simp; omega
 have hlt:id < S.nx:=Has.lt H (iK.2 ⟨aG (.dH id gg 0 ys.length lim 1) ys,by simp,by simp [aG,bA.fp,aP]⟩)
 have hm:gq (bK e) [x,y]=some [.dH id gg 0 i.toNat lim 1,lX (.dH id gg 0 ys.length lim 1) j.toNat]:=by simp only [gq,hx,hy,Option.map_some,kI]
 have hfact:DJ (kI (.dH id gg 0 ys.length lim 1) (ys.take i.toNat ++ ys.drop j.toNat).length) (ys.take i.toNat ++ ys.drop j.toNat).length ys.length:=⟨id,gg,lim,rfl,by omega,h5⟩
 have hop:∃ S' cs',oper C (bK e) S (.call { callee:=.builtin .append,args:=#[x,y],argTypes:=#[t1,u] })=some (.val (.dH id gg 0 (i.toNat + (ys.length - j.toNat)) lim 1) S')∧S'.H.get id=some (.cells gg cs')∧(∀ j,j ≠ id→S'.H.get j=S.H.get j)∧S'.T=S.T∧S'.Wf∧S'.nx=S.nx∧cs'.length=lim∧cs'.take (i.toNat + (ys.length - j.toNat))=(ys.take i.toNat ++ ys.drop j.toNat).map iE:=by
  have htk:cs.take i.toNat=(ys.take i.toNat).map iE:=by
   rw [List.map_take,← h4,List.take_take,Nat.min_eq_left (by omega)]
  have hzero:∀ S2:St,S2.H.get id=some (.cells gg cs)→ys.length=j.toNat→cs.take (i.toNat + (ys.length - j.toNat))=(ys.take i.toNat ++ ys.drop j.toNat).map iE:=fun S2 _ hjl=>by
   rw [show i.toNat + (ys.length - j.toNat)=i.toNat by omega,htk,List.drop_of_length_le (by omega),List.append_nil]
  by_cases hj:j.toNat=lim
  ·
   have hjl:ys.length=j.toNat:=by omega
   refine ⟨S,cs,?_,h2,fun _ _=>rfl,rfl,H.wf,rfl,h3,hzero S h2 hjl⟩
   simp only [oper,hm,dW,List.getElem?_toArray,List.getElem?_cons_zero,List.getElem?_cons_succ,hu,if_true,he,lX,if_pos hj]
   simp only [iX,iR,nz,mf,sizes,if_true,List.map_nil,List.flatten_nil,List.length_nil,St.look,h2,Nat.beq_refl,cond_true]
   rw [if_pos ⟨hs.symm,by decide,by omega⟩]
   rw [show i.toNat + (ys.length - j.toNat)=i.toNat by omega]
   rfl
  ·
   have hfrom:lX (.dH id gg 0 ys.length lim 1) j.toNat=.dH id gg (0 + j.toNat * 1) (ys.length - j.toNat) (lim - j.toNat) 1:=by simp only [lX,if_neg hj]
   rw [hfrom] at hm
   have hsrc:iR S 1 (.dH id gg (0 + j.toNat * 1) (ys.length - j.toNat) (lim - j.toNat) 1)=some ((cs.drop (0 + j.toNat * 1)).take ((ys.length - j.toNat) * 1),ys.length - j.toNat):=by
    simp only [iR,nz,St.look,h2,Nat.beq_refl,cond_true]
    rw [if_pos ⟨trivial,by decide,by omega⟩]
   by_cases hn:ys.length - j.toNat=0
   ·
    have hjl:ys.length=j.toNat:=by omega
    refine ⟨S,cs,?_,h2,fun _ _=>rfl,rfl,H.wf,rfl,h3,hzero S h2 hjl⟩
    simp only [oper,hm,dW,List.getElem?_toArray,List.getElem?_cons_zero,List.getElem?_cons_succ,hu,if_true,he]
    simp only [iX,hsrc,St.look,h2,Nat.beq_refl,cond_true]
    rw [if_pos ⟨hs.symm,by decide,by omega⟩,if_pos hn]
    rw [show i.toNat + (ys.length - j.toNat)=i.toNat by omega]
    rfl
   ·
    refine ⟨{ S with H:=S.H.set id (.cells gg (setAt cs i.toNat ((cs.drop j.toNat).take (ys.length - j.toNat)))) },setAt cs i.toNat ((cs.drop j.toNat).take (ys.length - j.toNat)),?_,by simp only [AL.aO,if_true],fun j hj=>by simp only [AL.aO]; rw [if_neg (Ne.symm hj)],rfl,wf_set H.wf hlt _,rfl,by rw [bU,h3],?_⟩
    ·
     simp only [oper,hm,dW,List.getElem?_toArray,List.getElem?_cons_zero,List.getElem?_cons_succ,hu,if_true,he]
     simp only [iX,hsrc,St.look,h2,Nat.beq_refl,cond_true]
     rw [if_pos ⟨hs.symm,by decide,by omega⟩,if_neg hn,if_pos (by omega)]
     simp only [Option.map_some,Nat.zero_add,Nat.mul_one]
     rw [show max lim (i.toNat + (ys.length - j.toNat))=lim by omega]
    ·
     have hsl:((cs.drop j.toNat).take (ys.length - j.toNat)).length=ys.length - j.toNat:=by simp; omega
     have hsplit:setAt cs i.toNat ((cs.drop j.toNat).take (ys.length - j.toNat))=cs.take i.toNat ++ (cs.drop j.toNat).take (ys.length - j.toNat) ++ cs.drop (i.toNat + (ys.length - j.toNat)):=by
      have e0:cs=cs.take i.toNat ++ (cs.drop i.toNat).take (ys.length - j.toNat) ++ cs.drop (i.toNat + (ys.length - j.toNat)):=by
       rw [List.append_assoc,← List.drop_drop,List.take_append_drop,List.take_append_drop]
      have hl1:(cs.take i.toNat).length=i.toNat:=by simp; omega
      have:=oG ((cs.drop j.toNat).take (ys.length - j.toNat)) (cs.take i.toNat) ((cs.drop i.toNat).take (ys.length - j.toNat)) (cs.drop (i.toNat + (ys.length - j.toNat))) (by rw [hsl]; simp; omega)
      rw [hl1,← e0] at this
      exact this
     rw [hsplit,List.take_append_of_le_length (by simp; omega),List.take_of_length_le (by simp; omega),htk]
     rw [List.map_append]
     congr 1
     rw [List.map_drop,← h4,List.drop_take]
 obtain ⟨S',cs',k1,k2,k3,k4,k5,k6,k7,k8⟩:=hop
 have hw2:kI (.dH id gg 0 ys.length lim 1) (ys.take i.toNat ++ ys.drop j.toNat).length=.dH id gg 0 (i.toNat + (ys.length - j.toNat)) lim 1:=by simp only [kI,hlen]
 refine ai.val hw (by rw [hw2]; exact k1) ht (k S' ?_ hfact)
 rw [hw2]
 refine Has.upd (l0:=[_]) (bs:=[_]) H k5 (by rw [k6]; exact Nat.le_refl _) (fun j hj hlt=>⟨k3 j (fun q=>?_),by rw [k4]⟩) (fun a ha=>?_) (by simp [gT,aG,bA.fp,aP]) (fun j hj=>.inl (by simpa [gT,aG,bA.fp,aP] using hj))
 ·
  subst q; exact hj (by simp [gT,aG,bA.fp,aP])
 ·
  simp only [List.mem_cons,List.not_mem_nil,or_false] at ha
  subst ha
  exact fG.2 ⟨rfl,rfl,hlen.symm,h1,cs',k2,k7,k8⟩
theorem ai.FU {t1 el:Nat} {zd:D} {jj:Nat} (H:Has B S (aG w ys :: l)) (hw:bO ops e { dst:=none,op:=.call { callee:=.builtin .clear,args:=#[x],argTypes:=#[t1] },type:=ty,pos:=p,after:=af,guard:=g }=some true)
  (hx:bK e x=some (su w ys.length jj)) (he:aZ C.P t1=some el) (hz:zeroOf C.P el=some zd) (hzl:zd.cells.length=1) (hb:DJ w ys.length jj)
  (k:∀ S',Has B S' (aG w ys :: l)→ai R C nt ops rest e S' Q) :
  ai R C nt ops ({ dst:=none,op:=.call { callee:=.builtin .clear,args:=#[x],argTypes:=#[t1] },type:=ty,pos:=p,after:=af,guard:=g } :: rest) e S Q:=by
 obtain ⟨id,gg,lim,rfl,b1,b2⟩:=hb
 have hp:=fG.1 (H.ok _ List.mem_cons_self)
 obtain ⟨_,_,_,hlim,cs,hH,hcl,hct⟩:=hp
 have hlt:id < S.nx:=Has.lt H (iK.2 ⟨aG (.dH id gg 0 ys.length lim 1) ys,by simp,by simp [aG,bA.fp,aP]⟩)
 have hm:gq (bK e) [x]=some [su (.dH id gg 0 ys.length lim 1) ys.length jj]:=by simp only [gq,hx,Option.map_some]
 by_cases hl:ys.length=lim
 ·
  refine ai.Il hw (v:=.tup []) (S':=S) ?_ (k S H)
  simp only [oper,hm,dW,List.getElem?_toArray,List.getElem?_cons_zero,he,su,if_pos hl,q9]
 ·
  by_cases h0:jj - ys.length=0
  ·
   refine ai.Il hw (v:=.tup []) (S':=S) ?_ (k S H)
   simp only [oper,hm,dW,List.getElem?_toArray,List.getElem?_cons_zero,he,su,if_neg hl,q9,if_pos h0]
  ·
   refine ai.Il hw (v:=.tup []) (S':={ S with H:=S.H.set id (.cells gg (setAt cs (0 + ys.length * 1) (((List.replicate (jj - ys.length) zd.cells).flatten).map .d))) }) ?_ (k _ ?_)
   ·
    simp only [oper,hm,dW,List.getElem?_toArray,List.getElem?_cons_zero,he,su,if_neg hl,q9,if_neg h0,St.look,hH,Nat.beq_refl,cond_true,hz]
    rw [if_pos ⟨hzl,by decide,by omega⟩]
   ·
    refine Has.upd (l0:=[_]) (bs:=[_]) H (wf_set H.wf hlt _) (Nat.le_refl _) (fun j hj _=>⟨?_,rfl⟩) (fun a ha=>?_) (by simp [gT,aG,bA.fp,aP]) (fun j hj=>.inl (by simpa [gT,aG,bA.fp,aP] using hj))
    ·
     simp only [AL.aO]
     rw [if_neg (fun q=>hj (by subst q; simp [gT,aG,bA.fp,aP]))]
    ·
     simp only [List.mem_cons,List.not_mem_nil,or_false] at ha
     subst ha
     refine fG.2 ⟨rfl,rfl,rfl,hlim,_,by simp only [AL.aO,if_true]; rfl,by rw [bU,hcl],?_⟩
     rw [← hct]
     have hfl:((List.replicate (jj - ys.length) zd.cells).flatten.map AV.d).length=jj - ys.length:=by
      rw [List.length_map,List.length_flatten,List.map_replicate,List.sum_replicate_nat,hzl,Nat.mul_one]
     apply List.ext_getElem?
     intro m
     by_cases hmm:m < ys.length
     ·
      rw [List.getElem?_take_of_lt hmm,List.getElem?_take_of_lt hmm,dL _ _ _ _ (by rw [hfl]; omega),if_neg (by omega)]
     ·
      rw [List.getElem?_take_eq_none (by omega),List.getElem?_take_eq_none (by omega)]
end
end
end Go.Ev

namespace Go.Ev
noncomputable section
set_option linter.unusedVariables false
set_option linter.unusedSimpArgs false
variable {R:bN} {P:Program} {B:St}
section
variable {α:Type} {enc:α→D} {kid:α→List Int} {sz k:Nat} {v:AV} {wss:List (List AV)} {xs:List α} {hole:Option Nat} {z:α} {n:Int} {S:St}
variable {C:fA} {ρ:Operand→Option AV} {l:List bA} {x y:Operand} {t ty q off:Nat}
theorem uY (H:Has B S l) (hi:l[q]? = some (ay enc kid sz k v wss xs hole)) (hz:idx xs n=some z) (off:Nat):∃ id g o,bu v n.toNat off=.ptr id g o:=by
 obtain ⟨id,g,ws,a,b,h1,h2,rfl,h4,_⟩:=(eQ.1 (H.at hi)).ptr hz off
 exact ⟨_,_,_,rfl⟩
theorem bG (H:Has B S l) (hi:l[q]? = some (ay enc kid sz k v wss xs hole)) (hz:idx xs n=some z) (h:ρ x=some (bu v n.toNat off)):oper C ρ S (.nilCheck x)=some (.val (bu v n.toNat off) S):=by
 obtain ⟨id,g,o,e⟩:=uY H hi hz off
 rw [e] at h ⊢
 exact bz h
theorem kD (H:Has B S l) (hi:l[q]? = some (ay enc kid sz k v wss xs hole)) (hz:idx xs n=some z) (h:ρ x=some (bu v n.toNat off)) (hy:ρ y=some (.d .nilp)) {e:Nat} (hu:C.P.underlying t=some (.pointer e)):oper C ρ S (.binOp .eql t x y ty)=some (.val (.d (.bool false)) S):=by
 obtain ⟨id,g,o,e⟩:=uY H hi hz off
 rw [e] at h
 exact aH h hy (Ab hu)
end
section
variable {C:fA} {nt:Nat} {ops:Array Oper} {rest:List Oper} {e:Env} {S:St} {Q:Stp→Prop} {l:List bA} {t ty:Nat} {p:String} {af:Array Edge} {g:Option (Nat × Bool)} {x y:Operand} {w:AV} {ys r:List Int}
theorem ai.EZ {tt ty2 el:Nat} (H:Has B S (aG w ys :: l)) (hw:bO ops e { dst:=some t,op:=.binOp .eql tt x y ty2,type:=ty,pos:=p,after:=af,guard:=g }=some true) (hx:bK e x=some w) (hy:bK e y=some (.d .aT)) (hu:C.P.underlying tt=some (.slice el)) (ht:Nat.blt t nt=true)
  (k:∀ b:Bool,(b=true→ys=[])→(b=false→w ≠ .d .aT)→ai R C nt ops rest ((t,.d (.bool b)) :: e) S Q) :
  ai R C nt ops ({ dst:=some t,op:=.binOp .eql tt x y ty2,type:=ty,pos:=p,after:=af,guard:=g } :: rest) e S Q:=by
 have hp:=fG.1 (H.ok _ List.mem_cons_self)
 unfold iw at hp
 split at hp
 ·
  refine ai.val hw (aH hx hy (r:=.bool true) ?_) ht (k true (fun _=>hp) (fun h=>by cases h))
  simp [kH,AV.eqv,jW,hu]
 ·
  refine ai.val hw (aH hx hy (r:=.bool false) ?_) ht (k false (fun h=>by cases h) (fun _=>by simp))
  simp [kH,AV.eqv,hu]
 ·
  exact hp.elim
theorem Ha:∀ (r:List Int),(((r.map (D.int .i64)).map D.cells).flatten.map AV.d)=r.map iE
 | []=>rfl
 | a :: l=>by simp only [List.map_cons,List.flatten_cons,List.map_append,Ha l]; rfl
theorem ai.FI {t1 u el nb:Nat} (H:Has B S (aG w ys :: l)) (hw:bO ops e { dst:=some t,op:=.call { callee:=.builtin .append,args:=#[x,y],argTypes:=#[t1,u] },type:=ty,pos:=p,after:=af,guard:=g }=some true)
  (hne:w ≠ .d .aT) (hx:bK e x=some (.d (.sl [] true))) (hy:bK e y=some w) (hnr:C.rowT t1=true) (hu:iA C u=true) (he:aZ C.P t1=some el) (hs:aK C.P el=1) (hr:Ev.app nb [] ys=some r) (hnb:bytesOf C.P el=nb) (h0:(Nat.blt 0 nb && Nat.ble nb 65536)=true) (hz:eF C el=true) (ht:Nat.blt t nt=true)
  (k:∀ v S',Has B S' (.row 1 v (r.map (D.int .i64)) :: aG w ys :: l)→ai R C nt ops rest ((t,v) :: e) S' Q) :
  ai R C nt ops ({ dst:=some t,op:=.call { callee:=.builtin .append,args:=#[x,y],argTypes:=#[t1,u] },type:=ty,pos:=p,after:=af,guard:=g } :: rest) e S Q:=by
 obtain ⟨hb,hr'⟩:=kY hr
 rw [List.nil_append] at hr'
 subst hr'
 have hp:=fG.1 (H.ok _ List.mem_cons_self)
 have hm:gq (bK e) [x,y]=some [.d (.sl [] true),w]:=by simp only [gq,hx,hy,Option.map_some]
 have hinfo:(C.P.info? el).isSome=true:=by
  unfold eF at hz
  cases hq:C.P.info? el with
  | none=>rw [hq] at hz; cases hz
  | some x=>rfl
 have hg:nE C el (0 + r.length)=true:=rf (by simpa using hb) hnb h0 hz
 unfold iw at hp
 split at hp
 ·
  exact (hne rfl).elim
 ·
  rename_i id gg off len lim sz'
  obtain ⟨rfl,rfl,rfl,hlim,cs,hH,hcl,hct⟩:=hp
  have hle:r.length ≤ cs.length:=by have:=congrArg List.length hct; simp at this; omega
  have hsrc:iR S 1 (.dH id gg 0 r.length lim 1)=some (cs.take r.length,r.length):=by
   simp only [iR,nz,St.look,hH,Nat.beq_refl,cond_true]
   rw [if_pos ⟨trivial,by decide,by omega⟩,List.drop_zero,Nat.mul_one]
  by_cases hn:r.length=0
  ·
   have hr0:r=[]:=List.eq_nil_of_length_eq_zero hn
   refine ai.val hw (v:=.d (.sl [] true)) (S':=S) ?_ ht (k _ _ (by subst hr0; exact H.Hz 1))
   simp only [oper,hm,dW,List.getElem?_toArray,List.getElem?_cons_zero,List.getElem?_cons_succ,hu,if_true,he,hnr,cond_true,gF,hs,hsrc]
   rw [if_pos hn,if_pos hinfo]
   rfl
  ·
   refine ai.val hw (v:=.dH S.nx 0 0 r.length r.length 1) (S':=bQ S (.cells 0 (r.map iE))) ?_ ht (k _ _ (H.new (.cells 0 (r.map iE)) (a:=.row 1 (.dH S.nx 0 0 r.length r.length 1) (r.map (D.int .i64))) rfl ⟨rfl,by simp,by simp,rfl,by decide,fun z hz=>?_,r.map iE,?_,by simp only [bQ,AL.aO,if_true]⟩))
   ·
    simp only [oper,hm,dW,List.getElem?_toArray,List.getElem?_cons_zero,List.getElem?_cons_succ,hu,if_true,he,hnr,cond_true,gF,hs,hsrc]
    rw [if_neg hn,if_pos ⟨hn,by decide,rfl,by simpa using hg⟩,hct]
    simp [bQ]
   ·
    obtain ⟨n,hn,rfl⟩:=List.mem_map.1 hz
    exact ⟨rfl,rfl⟩
   ·
    rw [Ha]; exact .refl _
 ·
  exact hp.elim
end
end
end Go.Ev
namespace Go.Ev
theorem CJ {ys r:List Int} {i j:Int} (h:EB ys i j=some r):0 ≤ i∧i < j∧j ≤ ys.length:=by
 unfold EB at h
 split at h
 ·
  assumption
 ·
  cases h
theorem xz {B S:St} {α:Type} {enc:α→D} {kid:α→List Int} {sz k:Nat} {v:AV} {wss:List (List AV)} {xs:List α} {hole:Option Nat} {l:List bA} {i:Nat} (H:Has B S l) (hi:l[i]? = some (ay enc kid sz k v wss xs hole)):v.plain=true∧v.cells=[v]:=by
 have h:=(eQ.1 (H.at hi)).2.2.2
 revert h
 split
 ·
  exact fun _=>⟨rfl,rfl⟩
 ·
  exact fun _=>⟨rfl,rfl⟩
 ·
  exact fun q=>q.elim
end Go.Ev
namespace Go.Ev
theorem u7 {B S:St} {C:fA} {fn:Func} {e:Env} {l:List bA} (H:Has B S l) {a t i id u:Nat} {cs:List AV} {v y:AV} (hf:fn.results = #[.cell a t,.tmp u]) (ha:AL.get e a=some (.ptr id 0 0)) (hi:l[i]? = some (.box id cs)) (hp:part C.P t cs 0=some v) (hu:AL.get e u=some y):kZ C fn e S=some (.tup [v,y]):=by
 have hb:S.H.get id=some (.cells 0 cs):=H.at hi
 simp only [kZ,hf,gq,xc,ha,kM,St.look,hb,Nat.beq_refl,cond_true,hp,hu,Option.map_some]
theorem Less.Je {a a' b b':AV} (h:Less a a') (k:Less b b'):Less (.tup [a,b]) (.tup [a',b']):=fun cx S w v hr=>by
 cases hr with
 | tup _ vs hl hh =>
  refine .tup _ vs hl (fun i x u hx hu=>?_)
  match i with
  | 0=>simp at hx; subst hx; exact h _ _ _ _ (hh 0 _ u rfl hu)
  | 1=>simp at hx; subst hx; exact k _ _ _ _ (hh 1 _ u rfl hu)
  | n + 2=>simp at hx
end Go.Ev
namespace Go.Ev
end Go.Ev

namespace Go.Ev
noncomputable section
set_option linter.unusedVariables false
set_option linter.unusedSimpArgs false
set_option linter.unusedSectionVars false
variable {R:bN} {P:Program} {B:St}
section
variable {κ:Type} [BEq κ] [LawfulBEq κ]
def BV (ek:κ→D):Nat→List (κ × List Int)→List AV→List (D × AV × Nat)
 | i,(k,_) :: l,w :: ws=>(ek k,w,i) :: BV ek (i + 1) l ws
 | _,_,_=>[]
def vB (w:AV) (ys:List Int) (S:St):Prop:=match w with
 | .d .aT=>ys=[]
 | .d (.sl [] _)=>ys=[]
 | .dH id g off len lim sz=>sz=1∧len=ys.length∧len ≤ lim∧∃ cs,S.H.get id=some (.cells g cs)∧(cs.drop off).take len=ys.map iE
 | _=>False
theorem iw.rd {w:AV} {ys:List Int} {S:St} (h:iw w ys S):vB w ys S:=by
 unfold iw at h
 split at h
 ·
  exact h
 ·
  obtain ⟨rfl,rfl,rfl,h4,cs,h5,h6,h7⟩:=h
  exact ⟨rfl,rfl,by have:=congrArg List.length h7; simp at this; omega,cs,h5,by simpa using h7⟩
 ·
  exact h.elim
theorem vB.keep {w:AV} {ys:List Int} {S S':St} (h:vB w ys S) (k:∀ id ∈ aP w,S'.H.get id=S.H.get id):vB w ys S':=by
 unfold vB at *
 split at h
 ·
  exact h
 ·
  exact h
 ·
  obtain ⟨h1,h2,h3,cs,h4,h5⟩:=h
  exact ⟨h1,h2,h3,cs,by rw [k _ (by simp [aP])]; exact h4,h5⟩
 ·
  exact h.elim
theorem vB.live {w:AV} {ys:List Int} {S:St} (h:vB w ys S):∀ id ∈ aP w,∃ b,S.H.get id=some b:=by
 unfold vB at h
 split at h
 ·
  intro id hid; simp [aP] at hid
 ·
  intro id hid; simp [aP] at hid
 ·
  obtain ⟨h1,h2,h3,cs,h4,h5⟩:=h
  intro id hid
  simp only [aP,List.mem_singleton] at hid
  subst hid; exact ⟨_,h4⟩
 ·
  exact h.elim
theorem vB.plain {w:AV} {ys:List Int} {S:St} (h:vB w ys S):w.plain=true:=by
 unfold vB at h
 split at h <;> first | rfl | exact h.elim
def vP (gr:Bool) (w:AV) (ys:List Int) (S:St):Prop:=if gr=true then iw w ys S else vB w ys S
theorem vP.rd {gr:Bool} {w:AV} {ys:List Int} {S:St} (h:vP gr w ys S):vB w ys S:=by
 unfold vP at h; split at h
 ·
  exact h.rd
 ·
  exact h
theorem vP.keep {gr:Bool} {w:AV} {ys:List Int} {S S':St} (h:vP gr w ys S) (k:∀ id ∈ aP w,S'.H.get id=S.H.get id):vP gr w ys S':=by
 unfold vP at *; split at h
 ·
  rename_i e; rw [if_pos e]; exact h.keep k
 ·
  rename_i e; rw [if_neg e]; exact h.keep k
def iH (hole:Option Nat) (ws:List AV):List Nat:=bH 0 hole (ws.map ([·]))
theorem lY {hole:Option Nat} {ws:List AV} {id:Nat}:id ∈ iH hole ws↔∃ i w,ws[i]? = some w∧hole ≠ some i∧id ∈ aP w:=by
 unfold iH
 rw [iL]
 constructor
 ·
  rintro ⟨i,q,h1,h2,h3⟩
  rw [List.getElem?_map,Option.map_eq_some_iff] at h1
  obtain ⟨w,h4,rfl⟩:=h1
  exact ⟨i,w,h4,h2,h3⟩
 ·
  rintro ⟨i,w,h1,h2,h3⟩
  exact ⟨i,[w],by rw [List.getElem?_map,h1]; rfl,h2,h3⟩
theorem pE {ws:List AV} {n:Nat} {w:AV} (h:ws[n]? = some w):(iH none ws).Perm (aP w ++ iH (some n) ws) :=
 jU (k:=0) (wss:=ws.map ([·])) (n:=n) (ws:=[w]) (by rw [List.getElem?_map,h]; rfl)
theorem DW {ws:List AV} {n:Nat} {w:AV}:iH (some n) (ws.set n w)=iH (some n) ws:=by
 unfold iH; rw [List.map_set,rU]
theorem Eg (ws:List AV) (w:AV):iH none (ws ++ [w])=iH none ws ++ aP w:=by
 unfold iH; rw [List.map_append]; exact sF [w] _
def Hu (ek:κ→D) (b:Nat) (kvs:List (κ × List Int)) (ws:List AV) (gr:Bool) (hole:Option Nat) (S:St):Prop :=
 ws.length=kvs.length∧S.H.get b=some (.map { es:=BV ek 0 kvs ws,clk:=kvs.length })∧∀ (i:Nat) (x:κ × List Int) (w:AV),kvs[i]? = some x→ws[i]? = some w→hole ≠ some i→vP gr w x.2 S
def cK (ek:κ→D) (b:Nat) (kvs:List (κ × List Int)) (ws:List AV) (gr:Bool) (hole:Option Nat):bA:=.abs (b :: iH hole ws) (Hu ek b kvs ws gr hole)
variable {ek:κ→D} {b:Nat} {kvs:List (κ × List Int)} {ws:List AV} {gr:Bool} {hole:Option Nat} {S S':St}
theorem kg:(cK ek b kvs ws gr hole).ok S↔Hu ek b kvs ws gr hole S:=by
 constructor
 ·
  exact fun h=>h.2 S (fun _ _=>rfl)
 ·
  intro h
  obtain ⟨h1,h2,h3⟩:=id h
  refine ⟨fun id hid=>?_,fun S' e=>⟨h1,by rw [e b List.mem_cons_self]; exact h2,fun i x w hx hw hn=>(h3 i x w hx hw hn).keep (fun id hid=>e id (List.mem_cons_of_mem _ (lY.2 ⟨i,w,hw,hn,hid⟩)))⟩⟩
  rcases List.mem_cons.1 hid with rfl | hid
  ·
   exact ⟨_,h2⟩
  ·
   obtain ⟨i,w,hw,hn,hq⟩:=lY.1 hid
   have hi:i < kvs.length:=by rw [← h1]; exact (List.getElem?_eq_some_iff.1 hw).1
   exact (h3 i _ w (List.getElem?_eq_getElem hi) hw hn).rd.live id hq
theorem oU:gT [cK ek b kvs ws gr hole]=b :: iH hole ws:=by simp [gT,cK,bA.fp]
def mw (kvs:List (κ × List Int)) (ws:List AV) (k:κ):AV:=match fB k kvs 0 with
 | some (i,_)=>ws.getD i .any
 | none=>.d .aT
def wC (kvs:List (κ × List Int)) (k:κ):Option Nat:=(fB k kvs 0).map (·.1)
theorem x9 {P:Program} {t:Nat} (K:p9 P t ek) (k:κ):∀ (m:List (κ × List Int)) (ws:List AV) (i j:Nat),ws.length=m.length→jJ P t (ek k) (BV ek i m ws) j=some ((fB k m j).map fun r=>(r.1,ws.getD (r.1 - j) .any))
 | [],[],i,j,_=>rfl
 | (a,b) :: l,w :: ws,i,j,h=>by
  simp only [BV,jJ,K.eq,fB]
  cases hb:k == a with
  | true =>
   have:=eq_of_beq hb
   subst this
   simp [K.same]
  | false =>
   simp only [x9 K k l ws (i + 1) (j + 1) (by simpa using h)]
   cases hf:fB k l (j + 1) with
   | none=>rfl
   | some r =>
    have:=(nV k l (j + 1) r.1 r.2 hf).1
    simp only [Option.map_some,Bool.false_eq_true,if_false,Option.some.injEq,Prod.mk.injEq,true_and]
    rw [show r.1 - j=(r.1 - (j + 1)) + 1 by omega]; rfl
theorem uR (k:κ):∀ (m:List (κ × List Int)) (i j:Nat) (v:List Int),fB k m i=some (j,v)→m[j - i]? = some (k,v)
 | [],i,j,v,h=>by simp [fB] at h
 | (a,b) :: l,i,j,v,h=>by
  simp only [fB] at h
  split at h
  ·
   rename_i e
   have:=eq_of_beq e; subst this
   simp only [Option.some.injEq,Prod.mk.injEq] at h; obtain ⟨rfl,rfl⟩:=h; simp
  ·
   have h1:=uR k l (i + 1) j v h
   have:=(nV k l (i + 1) j v h).1
   rw [show j - i=(j - (i + 1)) + 1 by omega]; simpa using h1
section
variable {C:fA} {ρ:Operand→Option AV} {l:List bA} {x y:Operand} {t1 kt et q:Nat} {k:κ}
theorem o5 (H:Has B S l) (hi:l[q]? = some (cK ek b kvs ws gr hole)) (hm:ρ x=some (.map b)) (hky:ρ y=some (.d (ek k))) (hk:nS C t1=some (kt,et)) (K:p9 C.P kt ek) (hz:zeroOf C.P et=some .aT) :
  oper C ρ S (.lookup t1 x y false)=some (.val (mw kvs ws k) S):=by
 obtain ⟨h1,h2,h3⟩:=kg.1 (H.at hi)
 have:mM C t1 S (.map b) (ek k) false=some (mw kvs ws k):=by
  simp only [mM,hk,mapOf,h2,K.ok,if_true,x9 K k kvs ws 0 0 h1]
  unfold mw
  cases fB k kvs 0 with
  | none=>simp [hz]
  | some r=>simp
 simp only [oper,hm,hky,this,Option.map_some]
theorem Has.KE {m:uL} (hm:m = { es:=[],clk:=0 }) (H:Has B S (.map b m :: l)):Has B S (cK ek b [] [] true none :: l):=by
 subst hm
 refine Has.pF (l0:=[_]) (bs:=[_]) H (fun a ha=>?_) (by simp [gT,cK,bA.fp,iH,bH]) (fun id hid=>by simpa [gT,cK,bA.fp,iH,bH] using hid)
 simp only [List.mem_cons,List.not_mem_nil,or_false] at ha
 subst ha
 exact kg.2 ⟨rfl,H.ok _ List.mem_cons_self,fun i x w h=>by simp at h⟩
theorem Has.I7 (H:Has B S (cK ek b kvs ws true none :: l)):Has B S (cK ek b kvs ws false none :: l):=by
 refine Has.pF (l0:=[_]) (bs:=[_]) H (fun a ha=>?_) (by have:=Has.nd0 (l0:=[_]) H; rwa [oU] at this ⊢) (fun id hid=>by rw [oU] at hid ⊢; exact hid)
 simp only [List.mem_cons,List.not_mem_nil,or_false] at ha
 subst ha
 obtain ⟨h1,h2,h3⟩:=kg.1 (H.ok _ List.mem_cons_self)
 exact kg.2 ⟨h1,h2,fun i x w hx hw hn=>(h3 i x w hx hw hn).rd⟩
theorem Has.I4 (H:Has B S (cK ek b kvs ws true none :: l)) (k:κ):Has B S (aG (mw kvs ws k) (gN kvs k []) :: cK ek b kvs ws true (wC kvs k) :: l):=by
 obtain ⟨h1,h2,h3⟩:=kg.1 (H.ok _ List.mem_cons_self)
 unfold mw gN zw wC
 cases hf:fB k kvs 0 with
 | none=>exact H.FL
 | some r =>
  obtain ⟨i,v⟩:=r
  have hg:=uR k kvs 0 i v hf
  rw [Nat.sub_zero] at hg
  have hi:i < ws.length:=by rw [h1]; exact (List.getElem?_eq_some_iff.1 hg).1
  have hw:=List.getElem?_eq_getElem hi
  have hwd:ws.getD i .any=ws[i]:=by rw [List.getD_eq_getElem?_getD,hw]; rfl
  have hv:=h3 i _ _ hg hw (by simp)
  simp only [Option.map_some,Option.getD_some]
  rw [hwd]
  have hnd:=Has.nd0 (l0:=[_]) H
  rw [oU] at hnd
  have hperm:=pE hw
  have e:gT [aG ws[i] v,cK ek b kvs ws true (some i)]=aP ws[i] ++ (b :: iH (some i) ws):=by simp [gT,aG,cK,bA.fp]
  have hp2:(aP ws[i] ++ (b :: iH (some i) ws)).Perm (b :: iH none ws):=List.perm_middle.trans (List.Perm.cons _ hperm.symm)
  refine Has.pF (l0:=[_]) (bs:=[_,_]) H (fun a ha=>?_) (by rw [e]; exact hp2.nodup_iff.2 hnd) (fun id hid=>by rw [oU]; rw [e] at hid; exact hp2.mem_iff.1 hid)
  simp only [List.mem_cons,List.not_mem_nil,or_false] at ha
  rcases ha with rfl | rfl
  ·
   exact fG.2 hv
  ·
   exact kg.2 ⟨h1,h2,fun j x w hx hw' _=>h3 j x w hx hw' (by simp)⟩
def oC (kvs:List (κ × List Int)) (ws:List AV) (k:κ) (w:AV):List AV:=match fB k kvs 0 with
 | some (i,_)=>ws.set i w
 | none=>ws ++ [w]
theorem Dl:∀ (m:List (κ × List Int)) (ws:List AV) (i j:Nat) (k:κ) (v:List Int) (w:AV),ws.length=m.length→(BV ek i m ws).modify j (fun p=>(ek k,w,p.2.2))=BV ek i (m.set j (k,v)) (ws.set j w)
 | [],[],i,j,k,v,w,h=>by simp [BV]
 | (a,c) :: l,u :: ws,i,0,k,v,w,h=>by simp [BV]
 | (a,c) :: l,u :: ws,i,j + 1,k,v,w,h=>by
  have:=Dl l ws (i + 1) j k v w (by simpa using h)
  simp only [BV,List.set_cons_succ,List.modify_succ_cons,this]
theorem Dx:∀ (m:List (κ × List Int)) (ws:List AV) (i:Nat) (k:κ) (v:List Int) (w:AV),ws.length=m.length→BV ek i m ws ++ [(ek k,w,i + m.length)]=BV ek i (m ++ [(k,v)]) (ws ++ [w])
 | [],[],i,k,v,w,h=>rfl
 | (a,c) :: l,u :: ws,i,k,v,w,h=>by
  have:=Dx l ws (i + 1) k v w (by simpa using h)
  simp only [BV,List.cons_append,List.length_cons]
  rw [show i + (l.length + 1)=i + 1 + l.length by omega,this]
theorem Bu (K:p9 C.P kt ek) (hk:nS C t1=some (kt,et)) (h1:ws.length=kvs.length) (h2:S.H.get b=some (.map { es:=BV ek 0 kvs ws,clk:=kvs.length })) {w:AV} (hp:w.plain=true) (v:List Int) :
  mI C t1 S (.map b) (ek k) w=some { S with H:=S.H.set b (.map { es:=BV ek 0 (jD kvs k v) (oC kvs ws k w),clk:=(jD kvs k v).length }) }:=by
 simp only [mI,hk,h2,K.ok,hp,Bool.and_self,if_true,x9 K k kvs ws 0 0 h1]
 unfold jD oC
 cases hf:fB k kvs 0 with
 | none =>
  have:=Dx (ek:=ek) kvs ws 0 k v w h1
  rw [Nat.zero_add] at this
  simp [this]
 | some r=>simp [Dl (ek:=ek) kvs ws 0 r.1 k v w h1]
theorem Eh (h1:ws.length=kvs.length) (v:List Int) (w:AV):(oC kvs ws k w).length=(jD kvs k v).length:=by
 unfold oC jD
 cases fB k kvs 0 with
 | none=>simp [h1]
 | some r=>simp [h1]
end
end
end
end Go.Ev

namespace Go.Ev
noncomputable section
set_option linter.unusedVariables false
set_option linter.unusedSimpArgs false
set_option linter.unusedSectionVars false
variable {R:bN} {P:Program} {B:St}
section
variable {κ:Type} [BEq κ] [LawfulBEq κ] {ek:κ→D} {b:Nat} {kvs:List (κ × List Int)} {ws:List AV} {gr:Bool} {hole:Option Nat} {S S':St} {k:κ}
theorem FX {v:List Int}:∀ {i:Nat} {x:κ × List Int} {w u:AV},(jD kvs k v)[i]? = some x→(oC kvs ws k u)[i]? = some w→ws.length=kvs.length →
  (w=u∧x.2=v∧(wC kvs k=some i∨wC kvs k=none∧i=kvs.length))∨(kvs[i]? = some x∧ws[i]? = some w∧wC kvs k ≠ some i):=by
 intro i x w u hx hw h1
 unfold jD at hx
 unfold oC at hw
 unfold wC
 cases hf:fB k kvs 0 with
 | none =>
  rw [hf] at hx hw
  simp only at hx hw
  by_cases hi:i < kvs.length
  ·
   rw [List.getElem?_append_left hi] at hx
   rw [List.getElem?_append_left (by omega)] at hw
   exact .inr ⟨hx,hw,by simp⟩
  ·
   have hi':i=kvs.length:=by
    have:=(List.getElem?_eq_some_iff.1 hx).1
    simp at this; omega
   subst hi'
   rw [List.getElem?_append_right (Nat.le_refl _)] at hx
   rw [← h1,List.getElem?_append_right (Nat.le_refl _)] at hw
   simp at hx hw
   subst hx; subst hw
   exact .inl ⟨rfl,rfl,.inr ⟨rfl,rfl⟩⟩
 | some r =>
  rw [hf] at hx hw
  simp only at hx hw
  by_cases hi:r.1=i
  ·
   subst hi
   have hlt:r.1 < kvs.length:=by have:=(List.getElem?_eq_some_iff.1 hx).1; simpa using this
   rw [List.getElem?_set_self hlt] at hx
   rw [List.getElem?_set_self (by omega)] at hw
   cases hx; cases hw
   exact .inl ⟨rfl,rfl,.inl rfl⟩
  ·
   rw [List.getElem?_set_ne hi] at hx hw
   exact .inr ⟨hx,hw,by simp [hi]⟩
theorem AO {u:AV} (h1:ws.length=kvs.length):(iH none (oC kvs ws k u)).Perm (aP u ++ iH (wC kvs k) ws):=by
 unfold oC wC
 cases hf:fB k kvs 0 with
 | none=>simp only [Option.map_none]; rw [Eg]; exact List.perm_append_comm
 | some r =>
  simp only [Option.map_some]
  have hg:=(nV k kvs 0 r.1 r.2 hf).2
  have:=pE (ws:=ws.set r.1 u) (n:=r.1) (w:=u) (by rw [List.getElem?_set_self (by omega)])
  rwa [DW] at this
section
variable {C:fA} {ρ:Operand→Option AV} {l:List bA} {x y:Operand} {t1 kt et q el:Nat} {n:Int} {kk:IntKind}
theorem wP (H:Has B S l) (hi:l[q]? = some (cK ek b kvs ws gr none)) (k:κ):vB (mw kvs ws k) (gN kvs k []) S:=by
 obtain ⟨h1,h2,h3⟩:=kg.1 (H.at hi)
 unfold mw gN zw
 cases hf:fB k kvs 0 with
 | none=>exact (rfl:vB (.d .aT) [] S)
 | some r =>
  obtain ⟨i,v⟩:=r
  have hg:=uR k kvs 0 i v hf
  rw [Nat.sub_zero] at hg
  have hlt:i < ws.length:=by rw [h1]; exact (List.getElem?_eq_some_iff.1 hg).1
  have hw:=List.getElem?_eq_getElem hlt
  have hwd:ws.getD i .any=ws[i]:=by rw [List.getD_eq_getElem?_getD,hw]; rfl
  simp only [Option.map_some,Option.getD_some]
  rw [hwd]
  exact (h3 i _ _ hg hw (by simp)).rd
variable {w:AV} {ys:List Int}
theorem Cw (h:vB w ys S) (hx:ρ x=some w) (ht:(aZ C.P t1).isSome=true):oper C ρ S (.call { callee:=.builtin .len,args:=#[x],argTypes:=#[t1] })=some (.val (.d (.int .i64 (ys.length:Int))) S):=by
 have hu:∃ e,C.P.underlying t1=some (.slice e):=by
  unfold aZ at ht
  split at ht
  ·
   rename_i hu; exact ⟨_,hu⟩
  ·
   cases ht
 obtain ⟨e,hu⟩:=hu
 unfold vB at h
 split at h
 ·
  subst h; exact kr hx (by simp [kJ,hu]) rfl
 ·
  subst h; exact kr hx (by simp [kJ,hu]) rfl
 ·
  obtain ⟨_,h2,_⟩:=h; subst h2; exact kr hx (by simp [kJ,hu]) rfl
 ·
  exact h.elim
def FQ (w:AV) (n:Nat):AV:=match w with
 | .dH id g off _ _ sz=>.ptr id g (off + n * sz)
 | _=>.any
theorem BX (h:vB w ys S) {z:Int} (hz:idx ys n=some z) (hx:ρ x=some w) (hy:ρ y=some (.d (.int kk n))) (he:aZ C.P t1=some el) (ha:(dV C.P el).isSome=true) (hs:aK C.P el=1):oper C ρ S (.indexAddr t1 x y)=some (.val (FQ w n.toNat) S):=by
 obtain ⟨h0,h1⟩:=dC hz
 unfold vB at h
 split at h
 ·
  subst h; simp at h1
 ·
  subst h; simp at h1
 ·
  obtain ⟨rfl,rfl,h3,cs,h4,h5⟩:=h
  refine bE hx hy ?_
  simp only [gV,he,h0,ha,decide_true,Bool.and_self,if_true]
  rw [if_pos ⟨(List.getElem?_eq_some_iff.1 h1).1,hs.symm⟩,hs]
  rfl
 ·
  exact h.elim
theorem Ai (h:vB w ys S) {z:Int} (hz:idx ys n=some z) (hx:ρ x=some (FQ w n.toNat)) (ha:dV C.P t1=some false):oper C ρ S (.load t1 x)=some (.val (.d (.int .i64 z)) S):=by
 obtain ⟨h0,h1⟩:=dC hz
 unfold vB at h
 split at h
 ·
  subst h; simp at h1
 ·
  subst h; simp at h1
 ·
  rename_i id g off len lim sz
  obtain ⟨rfl,rfl,h3,cs,h4,h5⟩:=h
  have hlt:=(List.getElem?_eq_some_iff.1 h1).1
  have hc:cs[off + n.toNat]? = some (iE z):=by
   have:((cs.drop off).take ys.length)[n.toNat]? = some (iE z):=by rw [h5,List.getElem?_map,h1]; rfl
   rw [List.getElem?_take_of_lt hlt,List.getElem?_drop] at this
   exact this
  have:part C.P t1 cs (off + n.toNat * 1)=some (iE z):=by
   unfold part; rw [ha,Nat.mul_one]; exact hc
  simp only [FQ] at hx
  simp only [oper,hx,kM,St.look,h4,Nat.beq_refl,cond_true,this,Option.map_some]
  rfl
 ·
  exact h.elim
def nR (w:AV) (j:Nat):AV:=match w with
 | .dH id g off len lim sz=>if j=lim then .d (.sl [] false) else .dH id g (off + j * sz) (len - j) (lim - j) sz
 | x=>x
theorem C9 (w:AV) (j:Nat):∀ id ∈ aP (nR w j),id ∈ aP w:=by
 unfold nR
 split
 ·
  split
  ·
   intro id h; simp [aP] at h
  ·
   intro id h; simpa [aP] using h
 ·
  exact fun _ h=>h
theorem Ee {j:Int} {r:List Int} (h:vB w ys S) (hc:cut ys j (ys.length:Int)=some r) (hj:0 < ys.length):vB (nR w j.toNat) r S:=by
 obtain ⟨⟨h0,h1,_⟩,rfl⟩:=mi hc
 unfold vB at h
 split at h
 ·
  subst h; simp at hj
 ·
  subst h; simp at hj
 ·
  rename_i id g off len lim sz
  obtain ⟨rfl,rfl,h3,cs,h4,h5⟩:=h
  unfold nR
  simp only
  split
  ·
   rename_i e
   show ((ys.take ((ys.length:Int)).toNat).drop j.toNat)=[]
   rw [Int.toNat_natCast,List.take_length]
   exact List.drop_of_length_le (by omega)
  ·
   refine ⟨rfl,by simp,by simp; omega,cs,h4,?_⟩
   rw [Int.toNat_natCast,List.take_length,List.map_drop,← h5,List.drop_take,List.drop_drop]
   simp
 ·
  exact h.elim
theorem Az {j:Int} {r:List Int} {lo:Operand} (h:vB w ys S) (hc:cut ys j (ys.length:Int)=some r) (hj:0 < ys.length) (hx:ρ x=some w) (hl:ρ lo=some (.d (.int kk j))) (he:aZ C.P t1=some el) (hu:(C.P.underlying el).isSome=true) (hs:aK C.P el=1) :
  oper C ρ S (.slice t1 x (some lo) none none)=some (.val (nR w j.toNat) S):=by
 obtain ⟨⟨h0,h1,_⟩,_⟩:=mi hc
 unfold vB at h
 split at h
 ·
  subst h; simp at hj
 ·
  subst h; simp at hj
 ·
  rename_i id g off len lim sz
  obtain ⟨rfl,rfl,h3,cs,h4,h5⟩:=h
  simp only [oper,hx,tK,hl,jE,pg,he,fZ,asNat,if_pos h0]
  rw [if_pos ⟨hs.symm,hu,by decide⟩,if_pos ⟨by omega,by omega⟩]
  simp only [nR,Option.map_some]
  split <;> rfl
 ·
  exact h.elim
end
section
variable {C:fA} {nt:Nat} {ops:Array Oper} {rest:List Oper} {e:Env} {Q:Stp→Prop} {l:List bA} {ty:Nat} {p:String} {af:Array Edge} {g:Option (Nat × Bool)} {x y z:Operand} {w:AV} {ys:List Int} {t1 kt et:Nat}
theorem Has.Fq {pre:List bA} {H0:List Nat} (hpre:gT pre=H0) (H:Has B S (pre ++ cK ek b kvs ws gr hole :: l)) (hh:hole=none∨hole=wC kvs k) (hids:∀ id ∈ aP w,id ∈ H0∨(hole=none∧∃ i u,wC kvs k=some i∧ws[i]? = some u∧id ∈ aP u)) (hnw:(aP w).Nodup) (hv:vP gr w ys S) :
  Has B { S with H:=S.H.set b (.map { es:=BV ek 0 (jD kvs k ys) (oC kvs ws k w),clk:=(jD kvs k ys).length }) } (cK ek b (jD kvs k ys) (oC kvs ws k w) gr none :: l):=by
 subst hpre
 have H2:Has B S ((pre ++ [cK ek b kvs ws gr hole]) ++ l):=by simpa using H
 obtain ⟨h1,h2,h3⟩:=kg.1 (H.ok (cK ek b kvs ws gr hole) (by simp))
 have hnd:=Has.nd0 H2
 have efp:gT (pre ++ [cK ek b kvs ws gr hole])=gT pre ++ (b :: iH hole ws):=by rw [pJ,oU]
 rw [efp] at hnd
 have hlt:b < S.nx:=Has.lt H (iK.2 ⟨cK ek b kvs ws gr hole,by simp,by simp [cK,bA.fp]⟩)
 have hnd3:=(List.nodup_append.1 hnd).2.1
 have hb:=(List.nodup_cons.1 hnd3).1
 have hsub:∀ id ∈ iH (wC kvs k) ws,id ∈ iH hole ws:=fun id hid=>by
  rcases hh with rfl | rfl
  ·
   obtain ⟨i,u,q1,q2,q3⟩:=lY.1 hid; exact lY.2 ⟨i,u,q1,by simp,q3⟩
  ·
   exact hid
 have hndk:(iH (wC kvs k) ws).Nodup:=by
  rcases hh with rfl | rfl
  ·
   cases hm:wC kvs k with
   | none=>exact (List.nodup_cons.1 hnd3).2
   | some i =>
    by_cases hi:i < ws.length
    ·
     have:=pE (List.getElem?_eq_getElem hi)
     exact (List.nodup_append.1 (this.nodup_iff.1 (List.nodup_cons.1 hnd3).2)).2.1
    ·
     unfold wC at hm
     cases hf:fB k kvs 0 with
     | none=>rw [hf] at hm; cases hm
     | some r =>
      rw [hf] at hm; simp at hm; subst hm
      have:=(nV k kvs 0 r.1 r.2 hf).2
      omega
  ·
   exact (List.nodup_cons.1 hnd3).2
 have hdis:∀ id ∈ aP w,id ∉ iH (wC kvs k) ws∧id ≠ b:=fun id hid=>by
  rcases hids id hid with h | ⟨rfl,i,u,hm,hu,hq⟩
  ·
   have hd:=(List.nodup_append.1 hnd).2.2 id h
   exact ⟨fun q=>hd id (List.mem_cons_of_mem _ (hsub id q)) rfl,fun q=>hd id (by rw [q]; exact List.mem_cons_self) rfl⟩
  ·
   have:=pE hu
   have hn:=this.nodup_iff.1 (List.nodup_cons.1 hnd3).2
   refine ⟨fun q=>?_,fun q=>hb (by rw [← q]; exact this.mem_iff.2 (List.mem_append_left _ hq))⟩
   rw [hm] at q
   exact (List.nodup_append.1 hn).2.2 id hq id q rfl
 have hperm:=AO (k:=k) (u:=w) h1
 have hidin:∀ id ∈ b :: iH none (oC kvs ws k w),id ∈ gT (pre ++ [cK ek b kvs ws gr hole]):=fun id hid=>by
  rw [efp]
  rcases List.mem_cons.1 hid with rfl | hid
  ·
   exact List.mem_append_right _ List.mem_cons_self
  ·
   rcases List.mem_append.1 (hperm.mem_iff.1 hid) with hid | hid
   ·
    rcases hids id hid with h | ⟨rfl,i,u,hm,hu,hq⟩
    ·
     exact List.mem_append_left _ h
    ·
     exact List.mem_append_right _ (List.mem_cons_of_mem _ (lY.2 ⟨i,u,hu,by simp,hq⟩))
   ·
    exact List.mem_append_right _ (List.mem_cons_of_mem _ (hsub id hid))
 have hbw:b ∉ iH none (oC kvs ws k w):=fun q=>by
  rcases List.mem_append.1 (hperm.mem_iff.1 q) with q | q
  ·
   exact (hdis b q).2 rfl
  ·
   exact hb (hsub b q)
 have hkeep:∀ {u:AV} {vs:List Int},vP gr u vs S→b ∉ aP u→vP gr u vs { S with H:=S.H.set b (.map { es:=BV ek 0 (jD kvs k ys) (oC kvs ws k w),clk:=(jD kvs k ys).length }) }:=fun q hq=>q.keep (fun id hid=>by simp only [AL.aO]; rw [if_neg (fun (e:b=id)=>hq (by rw [e]; exact hid))])
 refine Has.upd (bs:=[_]) H2 (wf_set H.wf hlt _) (Nat.le_refl _) (fun j hj _=>⟨?_,rfl⟩) (fun a ha=>?_) ?_ (fun j hj=>.inl ?_)
 ·
  simp only [AL.aO]
  rw [if_neg (fun q=>hj (by rw [efp,← q]; exact List.mem_append_right _ List.mem_cons_self))]
 ·
  simp only [List.mem_cons,List.not_mem_nil,or_false] at ha
  subst ha
  refine kg.2 ⟨Eh h1 ys w,by simp only [AL.aO,if_true],fun i x u hx hu _=>?_⟩
  have hbu:b ∉ aP u:=fun q=>hbw (lY.2 ⟨i,u,hu,by simp,q⟩)
  rcases FX hx hu h1 with ⟨rfl,e2,_⟩ | ⟨q1,q2,q3⟩
  ·
   rw [e2]; exact hkeep hv hbu
  ·
   refine hkeep (h3 i x u q1 q2 ?_) hbu
   rcases hh with rfl | rfl
   ·
    simp
   ·
    exact q3
 ·
  rw [oU]
  refine List.nodup_cons.2 ⟨hbw,hperm.nodup_iff.2 (List.nodup_append.2 ⟨hnw,hndk,fun a ha c hc hac=>?_⟩)⟩
  subst hac; exact (hdis a ha).1 hc
 ·
  rw [oU] at hj; exact hidin j hj
theorem um (w:AV):(aP w).Nodup:=by unfold aP; split <;> simp
theorem ai.Gg (H:Has B S (aG w ys :: cK ek b kvs ws true (wC kvs k) :: l)) (hw:bO ops e { dst:=none,op:=.mapUpdate t1 x y z,type:=ty,pos:=p,after:=af,guard:=g }=some true) (hm:bK e x=some (.map b)) (hky:bK e y=some (.d (ek k))) (hv:bK e z=some w) (hk:nS C t1=some (kt,et)) (K:p9 C.P kt ek)
  (kk:∀ ws' S',Has B S' (cK ek b (jD kvs k ys) ws' true none :: l)→ai R C nt ops rest e S' Q) :
  ai R C nt ops ({ dst:=none,op:=.mapUpdate t1 x y z,type:=ty,pos:=p,after:=af,guard:=g } :: rest) e S Q:=by
 have hs:=fG.1 (H.ok _ List.mem_cons_self)
 obtain ⟨h1,h2,h3⟩:=kg.1 (H.ok (cK ek b kvs ws true (wC kvs k)) (by simp))
 have hupd:=Bu (C:=C) (k:=k) (ws:=ws) (v:=ys) K hk h1 h2 hs.rd.plain
 have:=Has.Fq (pre:=[aG w ys]) (H0:=aP w) (by simp [gT,aG,bA.fp]) H (.inr rfl) (fun id hid=>.inl hid) (um w) (by unfold vP; exact hs)
 exact ai.skip hw (by simp only [oper,hm,hky,hv,hupd,Option.map_some]) (kk _ _ this)
theorem ai.Gq {j:Int} {r:List Int} (H:Has B S (cK ek b kvs ws false none :: l)) (hw:bO ops e { dst:=none,op:=.mapUpdate t1 x y z,type:=ty,pos:=p,after:=af,guard:=g }=some true) (hm:bK e x=some (.map b)) (hky:bK e y=some (.d (ek k))) (hc:cut (gN kvs k []) j ((gN kvs k []).length:Int)=some r) (hpos:0 < (gN kvs k []).length) (hv:bK e z=some (nR (mw kvs ws k) j.toNat)) (hk:nS C t1=some (kt,et)) (K:p9 C.P kt ek)
  (kk:∀ ws' S',Has B S' (cK ek b (jD kvs k r) ws' false none :: l)→ai R C nt ops rest e S' Q) :
  ai R C nt ops ({ dst:=none,op:=.mapUpdate t1 x y z,type:=ty,pos:=p,after:=af,guard:=g } :: rest) e S Q:=by
 have hrow:=wP H (q:=0) rfl k
 have hr:=Ee hrow hc hpos
 obtain ⟨h1,h2,h3⟩:=kg.1 (H.ok _ List.mem_cons_self)
 have hupd:=Bu (C:=C) (k:=k) (ws:=ws) (v:=r) K hk h1 h2 hr.plain
 have:=Has.Fq (pre:=[]) (k:=k) (w:=nR (mw kvs ws k) j.toNat) (ys:=r) (H0:=[]) rfl H (.inl rfl) (fun id hid=>.inr ⟨rfl,by
  have h0:=C9 _ _ id hid
  unfold mw at h0
  unfold wC
  cases hf:fB k kvs 0 with
  | none=>rw [hf] at h0; simp [aP] at h0
  | some q =>
   rw [hf] at h0
   have hlt:=(nV k kvs 0 q.1 q.2 hf).2
   have hwi:=List.getElem?_eq_getElem (l:=ws) (i:=q.1) (by omega)
   refine ⟨q.1,_,rfl,hwi,?_⟩
   simp only [List.getD_eq_getElem?_getD,hwi] at h0
   exact h0⟩) (um _) (by unfold vP; exact hr)
 exact ai.skip hw (by simp only [oper,hm,hky,hv,hupd,Option.map_some]) (kk _ _ this)
end
end
end
end Go.Ev
namespace Go.Ev
theorem Dr {α:Type} {l:List α} {n:Int} {x:α} (h:idx l n=some x):0 < l.length:=by
 have:=(List.getElem?_eq_some_iff.1 (dC h).2).1
 omega
theorem I9 {P:Program} {t:Nat} {xs ys:List D} (h:P.eqGuardType P.depth t=false):AV.eqv P t (.d (.agg xs)) (.d (.agg ys))=jW P 20 t (.agg xs) (.agg ys):=by simp [AV.eqv,h]
theorem zK {P:Program} {t:Nat} {fs:Array Field} {xs:List D} (hu:P.underlying t=some (.struct fs)) (h1:xs.all kX=true) (h2:(fs.all fun f=>f.name != "_" && ku P f.type && (iG P f.type xs f.offset).isSome)=true):lN P t (.agg xs)=true:=by
 simp only [lN,hu,h1,h2,Bool.and_self]
end Go.Ev

namespace Go.Ev
noncomputable section
set_option linter.unusedVariables false
set_option linter.unusedSimpArgs false
variable {R:bN} {P:Program} {B:St}
section
variable {α:Type} {enc:α→D} {C:fA} {S:St} {l:List bA} {v rv:AV} {xs r:List α} {z:α} {c:List AV} {sz:Nat} {x y:Operand} {t el nb u:Nat}
theorem vZ {ρ:Operand→Option AV} (H:Has B S (fF sz 1 rv c :: .row sz v (xs.map enc) :: l)) (hx:ρ x=some v) (hy:ρ y=some rv) (hnr:C.rowT t=true) (hu:iA C u=true) (he:aZ C.P t=some el) (hs:aK C.P el=sz) (hpos:Nat.blt 0 sz=true)
  (hr:Ev.app nb xs [z]=some r) (hnb:bytesOf C.P el=nb) (h0:(Nat.blt 0 nb && Nat.ble nb 65536)=true) (hz:eF C el=true) (hle:fH ((enc z).cells.map .d) c) (hzl:(enc z).cells.length=sz) (hzf:jK (enc z).cells=true) :
  ∃ v' S',oper C ρ S (.call { callee:=.builtin .append,args:=#[x,y],argTypes:=#[t,u] })=some (.val v' S')∧Has B S' (.row sz v' (r.map enc) :: l):=by
 obtain ⟨hb,rfl⟩:=kY hr
 subst hs
 have hpos:0 < aK C.P el:=Nat.le_of_ble_eq_true hpos
 have hm:gq ρ [x,y]=some [v,rv]:=by simp only [gq,hx,hy,Option.map_some]
 have hraw:=uC.1 (H.ok (fF (aK C.P el) 1 rv c) (by simp))
 have hcl:c.length=aK C.P el:=by obtain ⟨_,_,_,_,q⟩:=hraw; omega
 have hsrc:=zX hraw hpos
 have hg:nE C el (xs.length + 1)=true:=rf (by simpa using hb) hnb h0 hz
 have hp:=H.ok (.row (aK C.P el) v (xs.map enc)) (by simp)
 have H2:Has B S ([fF (aK C.P el) 1 rv c,.row (aK C.P el) v (xs.map enc)] ++ l):=H
 have e2:gT [fF (aK C.P el) 1 rv c,.row (aK C.P el) v (xs.map enc)]=aP rv ++ (bA.row (aK C.P el) v (xs.map enc)).fp:=by simp [gT,fF,bA.fp]
 have finish:∀ (id g:Nat) (cs:List AV) (S':St),fH ((((xs ++ [z]).map enc).map D.cells).flatten.map .d) cs→(∀ w ∈ (xs ++ [z]).map enc,w.cells.length=aK C.P el∧jK w.cells=true)→S'.H.get id=some (.cells g cs)→(∀ j,j ≠ id→S'.H.get j=S.H.get j)→S'.T=S.T→S'.Wf→S.nx ≤ S'.nx→(id ∈ (bA.row (aK C.P el) v (xs.map enc)).fp∨S.nx ≤ id) →
   Has B S' (.row (aK C.P el) (.dH id g 0 (xs.length + 1) (xs.length + 1) (aK C.P el)) ((xs ++ [z]).map enc) :: l):=fun id g cs S' hl hw hH hsame hT wf nx hin=>by
  refine Has.upd (bs:=[_]) H2 wf nx (fun j hj hlt=>⟨hsame j (fun q=>?_),by rw [hT]⟩) (fun a ha=>?_) (by simp [gT,bA.fp]) (fun j hj=>?_)
  ·
   subst q
   rcases hin with h | h
   ·
    exact hj (by rw [e2]; exact List.mem_append_right _ h)
   ·
    omega
  ·
   simp only [List.mem_cons,List.not_mem_nil,or_false] at ha
   subst ha
   exact ⟨rfl,by simp,by simp,rfl,hpos,hw,cs,hl,hH⟩
  ·
   have:j=id:=by simpa [gT,bA.fp] using hj
   subst this
   rcases hin with h | h
   ·
    exact .inl (by rw [e2]; exact List.mem_append_right _ h)
   ·
    exact .inr h
 have first:∀ w,(w=.d .aT∨w=.d (.sl [] true))→xs=[]→∃ v' S',(gF C el S w [] rv).map (fun r=>EC.val r.1 r.2)=some (.val v' S')∧Has B S' (.row (aK C.P el) v' ((xs ++ [z]).map enc) :: l):=fun w hw hxs=>by
  subst hxs
  refine ⟨.dH S.nx 0 0 1 1 (aK C.P el),{ S with H:=S.H.set S.nx (.cells 0 c),nx:=S.nx + 1 },?_,?_⟩
  ·
   simp only [gF,hsrc]
   rw [if_neg (by decide),if_pos ⟨by decide,hpos,rfl,by simpa using hg⟩]
   rfl
  ·
   exact finish S.nx 0 c _ (by simpa using hle) (fun w hw=>by simp at hw; subst hw; exact ⟨hzl,hzf⟩) (by simp [AL.aO]) (fun j hj=>by simp only [AL.aO]; rw [if_neg (Ne.symm hj)]) rfl (zx H.wf _) (Nat.le_succ _) (.inr (Nat.le_refl _))
 simp only [oper,hm,dW,List.getElem?_toArray,List.getElem?_cons_zero,List.getElem?_cons_succ,hu,if_true,he]
 simp only [bA.ok] at hp
 split at hp
 ·
  simp only [hnr,cond_true]; exact first _ (.inl rfl) (by simpa using hp)
 ·
  simp only [hnr,cond_true]; exact first _ (.inr rfl) (by simpa using hp)
 ·
  rename_i id g off len lim sz'
  obtain ⟨rfl,rfl,rfl,rfl,_,hsz,cs,hcs,hid⟩:=hp
  have hlen:cs.length=xs.length * aK C.P el:=by
   have:=hcs.len
   rw [List.length_map,A7 (fun x hx=>(hsz x hx).1)] at this
   simpa using this.symm
  have hlt:id < S.nx:=Has.lt H (iK.2 ⟨.row (aK C.P el) (.dH id g 0 (xs.map enc).length (xs.map enc).length (aK C.P el)) (xs.map enc),by simp,by simp [bA.fp]⟩)
  refine ⟨.dH id (g + 1) 0 (xs.length + 1) (xs.length + 1) (aK C.P el),{ S with H:=S.H.set id (.cells (g + 1) (cs.take ((xs.map enc).length * aK C.P el) ++ c)) },?_,?_⟩
  ·
   simp only [iX,hsrc,St.look,hid,Nat.beq_refl,cond_true,List.length_map]
   rw [if_pos ⟨trivial,hpos,by omega⟩,if_neg (by decide),if_neg (by omega),if_pos ⟨trivial,hg⟩]
   rfl
  ·
   refine finish id (g + 1) (cs.take ((xs.map enc).length * aK C.P el) ++ c) _ ?_ (fun w hw=>?_) (by simp only [AL.aO,if_true]) (fun j hj=>by simp only [AL.aO]; rw [if_neg (Ne.symm hj)]) rfl (wf_set H.wf hlt _) (Nat.le_refl _) (.inl (by simp [bA.fp]))
   ·
    rw [List.length_map,← hlen,List.take_length]
    simp only [List.map_append,List.flatten_append,List.map_cons,List.map_nil,List.flatten_cons,List.flatten_nil,List.append_nil]
    exact hcs.append hle
   ·
    rw [List.map_append] at hw
    rcases List.mem_append.1 hw with hw | hw
    ·
     exact hsz w hw
    ·
     simp at hw; subst hw; exact ⟨hzl,hzf⟩
 ·
  exact hp.elim
end
section
variable {α:Type} {enc:α→D} {C:fA} {nt:Nat} {ops:Array Oper} {rest:List Oper} {e:Env} {S:St} {Q:Stp→Prop} {l:List bA} {t ty:Nat} {p:String} {af:Array Edge} {g:Option (Nat × Bool)} {x y:Operand} {v rv:AV} {xs r:List α} {z:α} {c:List AV} {sz t1 u el nb:Nat}
theorem ai.wE (H:Has B S (fF sz 1 rv c :: .row sz v (xs.map enc) :: l)) (hw:bO ops e { dst:=some t,op:=.call { callee:=.builtin .append,args:=#[x,y],argTypes:=#[t1,u] },type:=ty,pos:=p,after:=af,guard:=g }=some true)
  (hx:bK e x=some v) (hy:bK e y=some rv) (hnr:C.rowT t1=true) (hu:iA C u=true) (he:aZ C.P t1=some el) (hs:aK C.P el=sz) (hpos:Nat.blt 0 sz=true)
  (hr:Ev.app nb xs [z]=some r) (hnb:bytesOf C.P el=nb) (h0:(Nat.blt 0 nb && Nat.ble nb 65536)=true) (hz:eF C el=true) (hle:fH ((enc z).cells.map .d) c) (hzl:(enc z).cells.length=sz) (hzf:jK (enc z).cells=true) (ht:Nat.blt t nt=true)
  (kk:∀ v' S',Has B S' (.row sz v' (r.map enc) :: l)→ai R C nt ops rest ((t,v') :: e) S' Q) :
  ai R C nt ops ({ dst:=some t,op:=.call { callee:=.builtin .append,args:=#[x,y],argTypes:=#[t1,u] },type:=ty,pos:=p,after:=af,guard:=g } :: rest) e S Q:=by
 obtain ⟨v',S',h1,h2⟩:=vZ (C:=C) (ρ:=bK e) H hx hy hnr hu he hs hpos hr hnb h0 hz hle hzl hzf
 exact ai.val hw h1 ht (kk v' S' h2)
end
end
end Go.Ev

namespace Go.Ev
namespace Pr
set_option linter.unusedVariables false
set_option linter.unusedSimpArgs false
structure Attr where
 Name:Str
 Value:Str
 deriving DecidableEq
def az (x:Attr):D:=.agg [(.str x.Name),(.str x.Value)]
theorem Attr.eq (x:Attr):az x=.agg [(.str x.Name),(.str x.Value)]:=rfl
theorem Attr.cells (x:Attr):(az x).cells=[(.str x.Name),(.str x.Value)]:=by rw [Attr.eq]; rfl
theorem Attr.len (x:Attr):(az x).cells.length=2:=by rw [Attr.cells]; rfl
theorem Attr.cn (x:Attr):(az x).cn=az x:=by
 rw [Attr.eq]
 exact EN (by
  intro d hd
  simp only [List.mem_cons,List.not_mem_nil,or_false] at hd
  rcases hd with rfl | rfl
  ·
   exact rfl
  ·
   exact rfl)
theorem Attr.ug {P:Program} {t:Nat} {x:Attr} (ha:dV P t=some true) (hz:aK P t=2):iG P t (az x).cells 0=some (az x):=by
 rw [Attr.cells,yX ha hz rfl,Attr.eq]; rfl
def Attr.beq (x y:Attr):Bool:=((x.Name == y.Name) && ((x.Value == y.Value) && true))
structure aA where
 lives:Bool
 tag:Str
 key:Str
 text:Str
 attrs:(List Attr)
 parent:Int
def dB (x:aA):D:=.agg [(.bool x.lives),(.str x.tag),(.str x.key),(.str x.text),(.sl ((x.attrs).map az) false),.aT,(.int .i64 x.parent)]
theorem aA.eq (x:aA):dB x=.agg [(.bool x.lives),(.str x.tag),(.str x.key),(.str x.text),(.sl ((x.attrs).map az) false),.aT,(.int .i64 x.parent)]:=rfl
theorem aA.fD (x:aA):(AV.d (dB x)).cells=[.d (.bool x.lives),.d (.str x.tag),.d (.str x.key),.d (.str x.text),.d (.sl ((x.attrs).map az) false),.d .aT,.d (.int .i64 x.parent)]:=by rw [aA.eq]; rfl
structure ah where
 lives:Bool
 tag:Str
 key:Str
 text:Str
 attrs:(List Attr)
 kids:(List Int)
 parent:Int
def ae (x:ah):D:=.agg [(.bool x.lives),(.str x.tag),(.str x.key),(.str x.text),(.sl ((x.attrs).map az) false),(.sl ((x.kids).map (D.int .i64)) false),(.int .i64 x.parent)]
structure ax where
 l:(List ah)
 freed:(List Int)
inductive Tree where
 | mk (Tag:Str) (Key:Str) (Text:Str) (aQ:(List Attr)) (Kids:(List Tree))
def Tree.Tag:Tree→Str | .mk x _ _ _ _=>x
def Tree.Key:Tree→Str | .mk _ x _ _ _=>x
def Tree.Text:Tree→Str | .mk _ _ x _ _=>x
def Tree.aQ:Tree→(List Attr) | .mk _ _ _ x _=>x
def Tree.Kids:Tree→(List Tree) | .mk _ _ _ _ x=>x
mutual
def au:Tree→D
 | .mk x0 x1 x2 x3 x4=>.agg [(.str x0),(.str x1),(.str x2),(.sl ((x3).map az) false),.sl (mE x4) false]
def mE:List Tree→List D
 | []=>[]
 | x :: l=>au x :: mE l
end
theorem tT:∀ (l:List Tree),mE l=l.map au
 | []=>rfl
 | x :: l=>by rw [mE,tT l]; rfl
theorem Tree.eq (x:Tree):au x=.agg [(.str x.Tag),(.str x.Key),(.str x.Text),(.sl ((x.aQ).map az) false),(.sl ((x.Kids).map au) false)]:=by
 cases x
 rw [au,tT]
 rfl
theorem Tree.cells (x:Tree):(au x).cells=[(.str x.Tag),(.str x.Key),(.str x.Text),(.sl ((x.aQ).map az) false),(.sl ((x.Kids).map au) false)]:=by rw [Tree.eq]; rfl
theorem Tree.fD (x:Tree):(AV.d (au x)).cells=[.d (.str x.Tag),.d (.str x.Key),.d (.str x.Text),.d (.sl ((x.aQ).map az) false),.d (.sl ((x.Kids).map au) false)]:=by rw [Tree.eq]; rfl
theorem Tree.agg (x:Tree):(au x).isAgg=true:=by rw [Tree.eq]; rfl
theorem Tree.len (x:Tree):(au x).cells.length=5:=by rw [Tree.cells]; rfl
mutual
theorem Tree.cn:∀ (x:Tree),(au x).cn=au x
 | .mk x0 x1 x2 x3 x4=>by
  rw [au]
  exact EN (by
   intro d hd
   simp only [List.mem_cons,List.not_mem_nil,or_false] at hd
   rcases hd with rfl | rfl | rfl | rfl | rfl
   ·
    exact rfl
   ·
    exact rfl
   ·
    exact rfl
   ·
    exact Jg Attr.cn _ _
   ·
    exact congrArg (D.sl · false) (Tree.DY x4))
theorem Tree.DY:∀ (l:List Tree),D.DY (mE l)=mE l
 | []=>rfl
 | x :: l=>by rw [mE,D.DY,Tree.cn x,Tree.DY l]
end
theorem Tree.ug {P:Program} {t:Nat} {x:Tree} (ha:dV P t=some true) (hz:aK P t=5):iG P t (au x).cells 0=some (au x):=by
 rw [Tree.cells,yX ha hz rfl,Tree.eq]; rfl
structure aS where
 tag:Str
 key:Str
 deriving DecidableEq
def aL (x:aS):D:=.agg [(.str x.tag),(.str x.key)]
theorem aS.eq (x:aS):aL x=.agg [(.str x.tag),(.str x.key)]:=rfl
theorem aS.fD (x:aS):(AV.d (aL x)).cells=[.d (.str x.tag),.d (.str x.key)]:=by rw [aS.eq]; rfl
def aS.beq (x y:aS):Bool:=((x.tag == y.tag) && ((x.key == y.key) && true))
def je (n:Nat) (a2:ax) (a6:aA):Option (Int × ax) :=
 (if (decide ((IntKind.wrap .i64 (((a2.freed).length:Int) - 1)) < 0))=true then ((app 112 a2.l [(ah.mk (aA.mk true a6.tag a6.key a6.text a6.attrs a6.parent).lives (aA.mk true a6.tag a6.key a6.text a6.attrs a6.parent).tag (aA.mk true a6.tag a6.key a6.text a6.attrs a6.parent).key (aA.mk true a6.tag a6.key a6.text a6.attrs a6.parent).text (aA.mk true a6.tag a6.key a6.text a6.attrs a6.parent).attrs [] (aA.mk true a6.tag a6.key a6.text a6.attrs a6.parent).parent)]).bind fun z17=>(some (((z17).length:Int),(ax.mk z17 a2.freed)))) else ((idx a2.freed (IntKind.wrap .i64 (((a2.freed).length:Int) - 1))).bind fun z38=>((cut a2.freed 0 (IntKind.wrap .i64 (((a2.freed).length:Int) - 1))).bind fun z39=>((idx a2.l (IntKind.wrap .i64 (z38 - 1))).bind fun z46=>(some (z38,(ax.mk (jI a2.l (IntKind.wrap .i64 (z38 - 1)) (ah.mk (aA.mk true a6.tag a6.key a6.text a6.attrs a6.parent).lives (aA.mk true a6.tag a6.key a6.text a6.attrs a6.parent).tag (aA.mk true a6.tag a6.key a6.text a6.attrs a6.parent).key (aA.mk true a6.tag a6.key a6.text a6.attrs a6.parent).text (aA.mk true a6.tag a6.key a6.text a6.attrs a6.parent).attrs [] (aA.mk true a6.tag a6.key a6.text a6.attrs a6.parent).parent)) z39)))))))
def jr (n:Nat) (a2:ax) (a6:Str):Option (Int × ax) :=
 ((je n a2 (aA.mk false [] [] a6 [] 0)).bind fun z7=>(some (z7.1,z7.2)))
def gm (n:Nat) (a2:ax) (a6:Str) (a7:Str):Option (Int × ax) :=
 (if (a6 == [])=true then ((jr n a2 []).bind fun z9=>(some (z9.1,z9.2))) else ((je n a2 (aA.mk false a6 a7 [] [] 0)).bind fun z16=>(some (z16.1,z16.2))))
def qR (n:Nat)  : Option (Option ax) :=
 ((gm n (ax.mk [] []) [114,111,111,116] []).bind fun z7=>(some (some z7.2)))
def fE (n:Nat) (a2:ax) (a6:Int):Option Bool :=
 ((if ((decide (a6 < 1)) || (decide (((a2.l).length:Int) < a6)))=true then some true else ((idx a2.l (IntKind.wrap .i64 (a6 - 1))).bind fun z8=>(some (!z8.lives)))).bind fun z9=>(if z9=true then (some false) else ((idx a2.l (IntKind.wrap .i64 (a6 - 1))).bind fun z12=>(some true))))
def gB (n:Nat) (a1:(List Int)):Option (List Int):=app 8 [] a1
def gy (n:Nat) (a2:ax) (a6:Int):Option (List Int) :=
 ((fE n a2 a6).bind fun z7=>(if z7=true then ((idx a2.l (IntKind.wrap .i64 (a6 - 1))).bind fun z15=>((gB n z15.kids).bind fun z16=>(some z16))) else (some [])))
def bT (n:Nat) (a1:(List Attr)):Option (List Attr):=app 32 [] a1
def dR (self:ax→Int→Option Tree) (a2:ax) (z10:ah) (z16:(List Attr)):Nat→(List Tree)→Int→Option Tree
 | 0,_,_=>none
 | k41 + 1,x38,x40 =>
  (if (decide (x40 < ((z10.kids).length:Int)))=true then ((idx z10.kids x40).bind fun z43=>((self a2 z43).bind fun z48=>((app 96 x38 [z48]).bind fun z52=>((dR self a2 z10 z16 k41) (z52) ((IntKind.wrap .i64 (x40 + 1))))))) else (some (Tree.mk z10.tag z10.key z10.text z16 x38)))
def fu:Nat→ax→Int→Option Tree
 | 0,_,_=>none
 | n + 1,a2,a6 =>
  ((idx a2.l (IntKind.wrap .i64 (a6 - 1))).bind fun z10=>((bT n z10.attrs).bind fun z16=>(dR (fu n) a2 z10 z16 n ([]) (0))))
def iJ (n:Nat) (a2:ax) (a6:Int):Option (Tree × Bool) :=
 ((fE n a2 a6).bind fun z10=>(if z10=true then ((idx a2.l (IntKind.wrap .i64 (a6 - 1))).bind fun z20=>((fu n a2 a6).bind fun z21=>(some (z21,true)))) else (some ((Tree.mk [] [] [] [] []),false))))
def bP (a1:(List Int)) (a2:(List Int)):Nat→Int→Option Bool
 | 0,_=>none
 | k12 + 1,x11 =>
  (if (decide (x11 < ((a1).length:Int)))=true then ((idx a1 x11).bind fun z14=>((idx a2 x11).bind fun z15=>(if (z14 != z15)=true then (some false) else ((bP a1 a2 k12) ((IntKind.wrap .i64 (x11 + 1))))))) else (some true))
def fT (n:Nat) (a1:(List Int)) (a2:(List Int)):Option Bool :=
 (if (((a1).length:Int) != ((a2).length:Int))=true then (some false) else (bP a1 a2 n (0)))
def bS (x21:Int) (again22:(List Tree)→Int→Option Tree) (x27:(List Tree)):Option Tree :=
 (again22 (x27) ((IntKind.wrap .i64 (x21 + 1))))
def aX (a1:(List Str)):Nat→(List Tree)→Int→Option Tree
 | 0,_,_=>none
 | k22 + 1,x19,x21 =>
  (if ((decide (x21 < ((a1).length:Int))) && (decide (x21 < 9)))=true then ((idx a1 x21).bind fun z30=>((cut z30 0 (jl ((z30).length:Int) 9)).bind fun z31=>((app 96 x19 [(Tree.mk [] [] z31 [] [])]).bind fun z32=>(if (x21 == 2)=true then ((app 96 z32 [(Tree.mk [98,114] [] [] [] [])]).bind fun z44=>(bS x21 (aX a1 k22) (z44))) else (bS x21 (aX a1 k22) (z32)))))) else (some (Tree.mk [112] [] [] [] x19)))
def dz (n:Nat) (a1:(List Str)):Option Tree :=
 (aX a1 n ([]) (0))
def dA (a2:ax) (a7:Int):Nat→Int→Option Bool
 | 0,_=>none
 | k16 + 1,x15 =>
  (if ((x15 != 0) && (x15 != a7))=true then ((idx a2.l (IntKind.wrap .i64 (x15 - 1))).bind fun z19=>((dA a2 a7 k16) (z19.parent))) else (some (x15 == a7)))
def jm (n:Nat) (a2:ax) (a6:Int) (a7:Int):Option Bool :=
 (dA a2 a7 n (a6))
def bI (a1:(List Int)) (a2:Int):Nat→Int→Option Int
 | 0,_=>none
 | k11 + 1,x10 =>
  (if (decide (x10 < ((a1).length:Int)))=true then ((idx a1 x10).bind fun z13=>(if (a2 == z13)=true then (some x10) else ((bI a1 a2 k11) ((IntKind.wrap .i64 (x10 + 1)))))) else (some (-1)))
def eG (n:Nat) (a1:(List Int)) (a2:Int):Option Int :=
 (bI a1 a2 n (0))
def eD (n:Nat) (a1:(List Int)) (a3:Int) (a4:Int):Option (List Int) :=
 ((EB a1 a3 a4).bind fun z5=>(if (a3 == a4)=true then (some a1) else (some z5)))
def iW (n:Nat) (a2:ax) (a6:Int):Option ax :=
 ((idx a2.l (IntKind.wrap .i64 (a6 - 1))).bind fun z7=>(if (z7.parent == 0)=true then (some a2) else ((idx a2.l (IntKind.wrap .i64 (z7.parent - 1))).bind fun z9=>((idx a2.l (IntKind.wrap .i64 (z7.parent - 1))).bind fun z10=>((eG n z10.kids a6).bind fun z11=>((eD n z10.kids z11 (IntKind.wrap .i64 (z11 + 1))).bind fun z14=>((idx (jI a2.l (IntKind.wrap .i64 (z7.parent - 1)) (ah.mk z10.lives z10.tag z10.key z10.text z10.attrs z14 z10.parent)) (IntKind.wrap .i64 (a6 - 1))).bind fun z27=>(some (ax.mk (jI (jI a2.l (IntKind.wrap .i64 (z7.parent - 1)) (ah.mk z10.lives z10.tag z10.key z10.text z10.attrs z14 z10.parent)) (IntKind.wrap .i64 (a6 - 1)) (ah.mk z27.lives z27.tag z27.key z27.text z27.attrs z27.kids 0)) a2.freed)))))))))
def eH (n:Nat) (a2:ax) (a6:Int) (a7:Int) (a8:Int):Option (Bool × ax) :=
 ((fE n a2 a6).bind fun z9=>(if z9=true then ((fE n a2 a7).bind fun z25=>(if z25=true then ((idx a2.l (IntKind.wrap .i64 (a6 - 1))).bind fun z34=>((idx a2.l (IntKind.wrap .i64 (a7 - 1))).bind fun z35=>(if ((z34.tag == []) || (a7 == 1))=true then (some (false,a2)) else ((jm n a2 a6 a7).bind fun z38=>(if z38=true then (some (false,a2)) else ((iW n a2 a7).bind fun z43=>((idx z43.l (IntKind.wrap .i64 (a6 - 1))).bind fun z49=>((EM z49.kids (sP 0 (jl a8 ((z49.kids).length:Int))) a7).bind fun z56=>((idx (jI z43.l (IntKind.wrap .i64 (a6 - 1)) (ah.mk z49.lives z49.tag z49.key z49.text z49.attrs z56 z49.parent)) (IntKind.wrap .i64 (a7 - 1))).bind fun z85=>(some (true,(ax.mk (jI (jI z43.l (IntKind.wrap .i64 (a6 - 1)) (ah.mk z49.lives z49.tag z49.key z49.text z49.attrs z56 z49.parent)) (IntKind.wrap .i64 (a7 - 1)) (ah.mk z85.lives z85.tag z85.key z85.text z85.attrs z85.kids a6)) z43.freed)))))))))))) else ((idx a2.l (IntKind.wrap .i64 (a6 - 1))).bind fun z32=>(some (false,a2))))) else ((fE n a2 a7).bind fun z16=>(if z16=true then (some (false,a2)) else (some (false,a2))))))
def iV (n:Nat) (a2:ax) (a6:Int) (a7:(List Attr)):Option (Bool × ax) :=
 ((fE n a2 a6).bind fun z8=>(if z8=true then ((idx a2.l (IntKind.wrap .i64 (a6 - 1))).bind fun z16=>(if (z16.tag == [])=true then (some (false,a2)) else ((bT n a7).bind fun z18=>(some (true,(ax.mk (jI a2.l (IntKind.wrap .i64 (a6 - 1)) (ah.mk z16.lives z16.tag z16.key z16.text z18 z16.kids z16.parent)) a2.freed)))))) else (some (false,a2))))
def fM (n:Nat) (self:ax→Tree→Option (Int × ax)) (a6:Tree) (z18:(Int × ax)):Nat→ax→Int→Option (Int × ax)
 | 0,_,_=>none
 | k47 + 1,x42,x46 =>
  (if (decide (x46 < ((a6.Kids).length:Int)))=true then ((idx a6.Kids x46).bind fun z49=>((self x42 z49).bind fun z55=>((eH n z55.2 z18.1 z55.1 x46).bind fun z62=>((fM n self a6 z18 k47) (z62.2) ((IntKind.wrap .i64 (x46 + 1))))))) else (some (z18.1,x42)))
def gH:Nat→ax→Tree→Option (Int × ax)
 | 0,_,_=>none
 | n + 1,a2,a6 =>
  (if (a6.Tag == [])=true then ((jr n a2 a6.Text).bind fun z11=>(some (z11.1,z11.2))) else ((gm n a2 a6.Tag a6.Key).bind fun z18=>((iV n z18.2 z18.1 a6.aQ).bind fun z25=>(fM n (gH n) a6 z18 n (z25.2) (0)))))
def lC (n:Nat) (a2:ax) (a6:Int) (a7:Str):Option (Bool × ax) :=
 ((fE n a2 a6).bind fun z8=>(if z8=true then ((idx a2.l (IntKind.wrap .i64 (a6 - 1))).bind fun z16=>(if (!(z16.tag == []))=true then (some (false,a2)) else (some (true,(ax.mk (jI a2.l (IntKind.wrap .i64 (a6 - 1)) (ah.mk z16.lives z16.tag z16.key a7 z16.attrs z16.kids z16.parent)) a2.freed))))) else (some (false,a2))))
def l8 (n:Nat) (a1:Tree):Option aS :=
 (some (aS.mk a1.Tag a1.Key))
def gI (x82:Int) (again83:(List (aS × List Int))→(List Int)→Int→Option (List Int)) (x87:(List (aS × List Int))) (x89:(List Int)):Option (List Int) :=
 (again83 (x87) (x89) ((IntKind.wrap .i64 (x82 + 1))))
def dE (n:Nat) (a2:(List Tree)):Nat→(List (aS × List Int))→(List Int)→Int→Option (List Int)
 | 0,_,_,_=>none
 | k83 + 1,x78,x80,x82 =>
  (if (decide (x82 < ((a2).length:Int)))=true then ((idx a2 x82).bind fun z92=>((l8 n z92).bind fun z98=>(if (((gN x78 z98 []).length:Int) == 0)=true then ((app 8 x80 [(-1)]).bind fun z104=>(gI x82 (dE n a2 k83) (x78) (z104))) else ((idx (gN x78 z98 []) 0).bind fun z110=>((app 8 x80 [z110]).bind fun z115=>((l8 n z92).bind fun z121=>((cut (gN x78 z98 []) 1 ((gN x78 z98 []).length:Int)).bind fun z122=>(gI x82 (dE n a2 k83) ((jD x78 z98 z122)) (z115))))))))) else (some x80))
def eT (n:Nat) (a1:(List Tree)) (a2:(List Tree)):Nat→(List (aS × List Int))→Int→Option (List Int)
 | 0,_,_=>none
 | k20 + 1,x17,x19 =>
  (if (decide (x19 < ((a1).length:Int)))=true then ((idx a1 x19).bind fun z22=>((l8 n z22).bind fun z28=>((app 8 (gN x17 z28 []) [x19]).bind fun z36=>((eT n a1 a2 k20) ((jD x17 z28 z36)) ((IntKind.wrap .i64 (x19 + 1))))))) else (dE n a2 n (x17) ([]) (0)))
def mF (n:Nat) (a1:(List Tree)) (a2:(List Tree)):Option (List Int) :=
 (eT n a1 a2 n ([]) (0))
def ji (n:Nat) (a2:ax) (a6:Int):Option (Bool × ax) :=
 ((fE n a2 a6).bind fun z7=>(if z7=true then ((idx a2.l (IntKind.wrap .i64 (a6 - 1))).bind fun z15=>(if (z15.parent == 0)=true then (some (false,a2)) else ((iW n a2 a6).bind fun z17=>(some (true,z17))))) else (some (false,a2))))
def dQ (self:ax→Int→Option ax) (z7:ah):Nat→ax→Int→Option ax
 | 0,_,_=>none
 | k42 + 1,x38,x41 =>
  (if (decide (x41 < ((z7.kids).length:Int)))=true then ((idx z7.kids x41).bind fun z44=>((self x38 z44).bind fun z45=>((dQ self z7 k42) (z45) ((IntKind.wrap .i64 (x41 + 1)))))) else (some x38))
def eO:Nat→ax→Int→Option ax
 | 0,_,_=>none
 | n + 1,a2,a6 =>
  ((idx a2.l (IntKind.wrap .i64 (a6 - 1))).bind fun z7=>((app 8 a2.freed [a6]).bind fun z20=>(dQ (eO n) z7 n ((ax.mk (jI a2.l (IntKind.wrap .i64 (a6 - 1)) (ah.mk (aA.mk false [] [] [] [] 0).lives (aA.mk false [] [] [] [] 0).tag (aA.mk false [] [] [] [] 0).key (aA.mk false [] [] [] [] 0).text (aA.mk false [] [] [] [] 0).attrs [] (aA.mk false [] [] [] [] 0).parent)) z20)) (0))))
def kz (n:Nat) (a2:ax) (a6:Int):Option (Bool × ax) :=
 ((fE n a2 a6).bind fun z7=>(if z7=true then ((idx a2.l (IntKind.wrap .i64 (a6 - 1))).bind fun z15=>(if ((a6 == 1) || (z15.parent != 0))=true then (some (false,a2)) else ((eO n a2 a6).bind fun z18=>(some (true,z18))))) else (some (false,a2))))
def lS (n:Nat) (a2:ax):Option Int :=
 (some 1)
def gY (n:Nat) (a2:ax):Option Int :=
 (some (IntKind.wrap .i64 (((a2.l).length:Int) - ((a2.freed).length:Int))))
def jP (n:Nat) (a2:ax) (a6:Int):Option (Int × ax) :=
 ((lS n a2).bind fun z7=>(if (a6 == z7)=true then (some (0,a2)) else ((gY n a2).bind fun z12=>((ji n a2 a6).bind fun z16=>((kz n z16.2 a6).bind fun z22=>((gY n z22.2).bind fun z28=>(some ((IntKind.wrap .i64 (z12 - z28)),z22.2))))))))
def fq (n:Nat) (a2:ax) (a6:(List Int)):Nat→(List Tree)→Int→Option (List Tree)
 | 0,_,_=>none
 | k19 + 1,x16,x18 =>
  (if (decide (x18 < ((a6).length:Int)))=true then ((idx a6 x18).bind fun z21=>((iJ n a2 z21).bind fun z22=>((app 96 x16 [z22.1]).bind fun z31=>((fq n a2 a6 k19) (z31) ((IntKind.wrap .i64 (x18 + 1))))))) else (some x16))
def mG (n:Nat) (a2:ax) (a6:(List Int)):Option (List Tree) :=
 (fq n a2 a6 n ([]) (0))
def gM (x32:Int) (again33:(List Int)→Int→Option (List Int)) (x37:(List Int)):Option (List Int) :=
 (again33 (x37) ((IntKind.wrap .i64 (x32 + 1))))
def dD (a1:Int) (x14:(List (Int × Int))):Nat→(List Int)→Int→Option (List Int)
 | 0,_,_=>none
 | k33 + 1,x30,x32 =>
  (if (decide (x32 < (sP a1 0)))=true then (if ((gN x14 x32 0) == 0)=true then ((app 8 x30 [x32]).bind fun z41=>(gM x32 (dD a1 x14 k33) (z41))) else (gM x32 (dD a1 x14 k33) (x30))) else (some x30))
def fe (n:Nat) (a1:Int) (a2:(List Int)):Nat→(List (Int × Int))→Int→Option (List Int)
 | 0,_,_=>none
 | k16 + 1,x14,x15 =>
  (if (decide (x15 < ((a2).length:Int)))=true then ((idx a2 x15).bind fun z18=>((fe n a1 a2 k16) ((jD x14 z18 (IntKind.wrap .i64 ((gN x14 z18 0) + 1)))) ((IntKind.wrap .i64 (x15 + 1))))) else (dD a1 x14 n ([]) (0)))
def mr (n:Nat) (a1:Int) (a2:(List Int)):Option (List Int) :=
 (fe n a1 a2 n ([]) (0))
def gJ (x88:Int) (again89:ax→Int→Option (Bool × ax)) (x93:ax):Option (Bool × ax) :=
 (again89 (x93) ((IntKind.wrap .i64 (x88 + 1))))
def cZ (n:Nat) (self:ax→Int→Tree→Option (Bool × ax)) (a6:Int) (a7:Tree) (z36:(List Int)) (z44:(List Int)):Nat→ax→Int→Option (Bool × ax)
 | 0,_,_=>none
 | k89 + 1,x84,x88 =>
  (if (decide (x88 < ((a7.Kids).length:Int)))=true then ((idx a7.Kids x88).bind fun z98=>((idx z44 x88).bind fun z104=>(if (decide (z104 < 0))=true then ((gH n x84 z98).bind fun z106=>((eH n z106.2 a6 z106.1 x88).bind fun z113=>(gJ x88 (cZ n self a6 a7 z36 z44 k89) (z113.2)))) else ((idx z44 x88).bind fun z119=>((idx z36 z119).bind fun z120=>((eH n x84 a6 z120 x88).bind fun z121=>((idx z44 x88).bind fun z127=>((idx z36 z127).bind fun z128=>((self z121.2 z128 z98).bind fun z129=>(gJ x88 (cZ n self a6 a7 z36 z44 k89) (z129.2))))))))))) else (some (true,x84)))
def eX (n:Nat) (self:ax→Int→Tree→Option (Bool × ax)) (a6:Int) (a7:Tree) (z36:(List Int)) (z44:(List Int)) (z48:(List Int)):Nat→ax→Int→Option (Bool × ax)
 | 0,_,_=>none
 | k63 + 1,x59,x62 =>
  (if (decide (x62 < ((z48).length:Int)))=true then ((idx z48 x62).bind fun z65=>((idx z36 z65).bind fun z66=>((jP n x59 z66).bind fun z67=>((eX n self a6 a7 z36 z44 z48 k63) (z67.2) ((IntKind.wrap .i64 (x62 + 1))))))) else (cZ n self a6 a7 z36 z44 n (x59) (0)))
def dU:Nat→ax→Int→Tree→Option (Bool × ax)
 | 0,_,_,_=>none
 | n + 1,a2,a6,a7 =>
  ((iJ n a2 a6).bind fun z11=>(if (((!z11.2) || (!(z11.1.Tag == a7.Tag))) || (!(z11.1.Key == a7.Key)))=true then (some (false,a2)) else (if (a7.Tag == [])=true then ((lC n a2 a6 a7.Text).bind fun z24=>(some (z24.1,z24.2))) else ((iV n a2 a6 a7.aQ).bind fun z30=>((gy n z30.2 a6).bind fun z36=>((mG n z30.2 z36).bind fun z40=>((mF n z40 a7.Kids).bind fun z44=>((mr n ((z36).length:Int) z44).bind fun z48=>(eX n (dU n) a6 a7 z36 z44 z48 n (z30.2) (0))))))))))
def bB (a1:(List Attr)) (a2:(List Attr)):Nat→Int→Option Bool
 | 0,_=>none
 | k12 + 1,x11 =>
  (if (decide (x11 < ((a1).length:Int)))=true then ((idx a1 x11).bind fun z14=>((idx a2 x11).bind fun z15=>(if (!(Attr.beq z14 z15))=true then (some false) else ((bB a1 a2 k12) ((IntKind.wrap .i64 (x11 + 1))))))) else (some true))
def dS (n:Nat) (a1:(List Attr)) (a2:(List Attr)):Option Bool :=
 (if (((a1).length:Int) != ((a2).length:Int))=true then (some false) else (bB a1 a2 n (0)))
def cz (self:Tree→Tree→Option Bool) (a1:Tree) (a2:Tree):Nat→Int→Option Bool
 | 0,_=>none
 | k24 + 1,x23 =>
  (if (decide (x23 < ((a1.Kids).length:Int)))=true then ((idx a1.Kids x23).bind fun z26=>((idx a2.Kids x23).bind fun z27=>((self z26 z27).bind fun z28=>(if (!z28)=true then (some false) else ((cz self a1 a2 k24) ((IntKind.wrap .i64 (x23 + 1)))))))) else (some true))
def cO:Nat→Tree→Tree→Option Bool
 | 0,_,_=>none
 | n + 1,a1,a2 =>
  ((if (((!(a1.Tag == a2.Tag)) || (!(a1.Key == a2.Key))) || (!(a1.Text == a2.Text)))=true then some true else ((dS n a1.aQ a2.aQ).bind fun z11=>(some (!z11)))).bind fun z12=>(if (z12 || (((a1.Kids).length:Int) != ((a2.Kids).length:Int)))=true then (some false) else (cz (cO n) a1 a2 n (0))))
def gU (x17:Int) (again18:(List Int)→Int→Option (List Int)) (x22:(List Int)):Option (List Int) :=
 (again18 (x22) ((IntKind.wrap .i64 (x17 + 1))))
def dI (a2:ax):Nat→(List Int)→Int→Option (List Int)
 | 0,_,_=>none
 | k18 + 1,x15,x17 =>
  (if (decide (x17 < ((a2.l).length:Int)))=true then ((idx a2.l x17).bind fun z25=>(if ((z25.lives && (z25.parent == 0)) && ((IntKind.wrap .i64 (x17 + 1)) != 1))=true then ((app 8 x15 [(IntKind.wrap .i64 (x17 + 1))]).bind fun z34=>(gU x17 (dI a2 k18) (z34))) else (gU x17 (dI a2 k18) (x15)))) else (some x15))
def rF (n:Nat) (a2:ax):Option (List Int) :=
 (dI a2 n ([]) (0))
def bq (x47:ax) (x50:Bool):Option Bool :=
 (some x50)
def gz (n:Nat)  : Option Bool :=
 ((qR n).bind fun z1=>(Fe z1 (some false) (fun x7=>((gH n x7 (Tree.mk [117,108] [] [] [] [(Tree.mk [108,105] [49] [] [] []),(Tree.mk [108,105] [50] [] [] [])])).bind fun z23=>((gy n z23.2 z23.1).bind fun z30=>((dU n z23.2 z23.1 (Tree.mk [117,108] [] [] [] [(Tree.mk [108,105] [50] [] [] []),(Tree.mk [108,105] [49] [] [] [])])).bind fun z34=>((gy n z34.2 z23.1).bind fun z41=>(if (z23.1 == 2)=true then (if z34.1=true then (if (((z30).length:Int) == 2)=true then (if (((z41).length:Int) == 2)=true then ((idx z30 0).bind fun z56=>((idx z41 1).bind fun z57=>(if (z56 == z57)=true then ((idx z30 1).bind fun z59=>((idx z41 0).bind fun z60=>(if (z59 == z60)=true then ((jP n z34.2 z23.1).bind fun z62=>(if (z62.1 == 3)=true then ((gY n z62.2).bind fun z69=>(bq (z62.2) ((z69 == 1)))) else (bq (z62.2) (false)))) else (bq (z34.2) (false))))) else (bq (z34.2) (false))))) else (bq (z34.2) (false))) else (bq (z34.2) (false))) else (bq (z34.2) (false))) else (bq (z34.2) (false))))))))))
def bZ (x49:Int) (again50:(List Int)→Int→Option Bool) (x54:(List Int)):Option Bool :=
 (again50 (x54) ((IntKind.wrap .i64 (x49 + 1))))
def bY (x89:Int) (again90:(List Int)→Int→Option Bool) (x94:(List Int)):Option Bool :=
 (again90 (x94) ((IntKind.wrap .i64 (x89 + 1))))
def bJ (x117:Bool):Option Bool :=
 (some x117)
def aV (n:Nat) (a2:(List Str)) (z4:Tree) (z27:(Int × ax)) (x47:(List Int)) (z66:(Bool × ax)) (z74:(List Int)):Nat→(List Int)→Int→Option Bool
 | 0,_,_=>none
 | k90 + 1,x87,x89 =>
  (if (decide (x89 < ((z74).length:Int)))=true then ((idx z74 x89).bind fun z97=>((if (decide (x89 < ((z4.Kids).length:Int)))=true then ((idx z4.Kids x89).bind fun z98=>(some (z98.Tag == []))) else some false).bind fun z99=>(if z99=true then ((app 8 x87 [z97]).bind fun z102=>(bY x89 (aV n a2 z4 z27 x47 z66 z74 k90) (z102))) else (bY x89 (aV n a2 z4 z27 x47 z66 z74 k90) (x87))))) else ((iJ n z66.2 z27.1).bind fun z106=>(if z106.2=true then ((cO n z106.1 z4).bind fun z120=>(if z120=true then ((cut x47 0 (jl ((x47).length:Int) ((x87).length:Int))).bind fun z122=>((cut x87 0 (jl ((x47).length:Int) ((x87).length:Int))).bind fun z123=>((fT n z122 z123).bind fun z124=>(if z124=true then (if (((x87).length:Int) == (jl ((a2).length:Int) 9))=true then ((gz n).bind fun z127=>(bJ (z127))) else (bJ (false))) else (bJ (false)))))) else (bJ (false)))) else (bJ (false)))))
def aU (n:Nat) (a2:(List Str)) (z3:Tree) (z4:Tree) (z27:(Int × ax)) (z34:(List Int)):Nat→(List Int)→Int→Option Bool
 | 0,_,_=>none
 | k50 + 1,x47,x49 =>
  (if (decide (x49 < ((z34).length:Int)))=true then ((idx z34 x49).bind fun z57=>((if (decide (x49 < ((z3.Kids).length:Int)))=true then ((idx z3.Kids x49).bind fun z58=>(some (z58.Tag == []))) else some false).bind fun z59=>(if z59=true then ((app 8 x47 [z57]).bind fun z62=>(bZ x49 (aU n a2 z3 z4 z27 z34 k50) (z62))) else (bZ x49 (aU n a2 z3 z4 z27 z34 k50) (x47))))) else ((dU n z27.2 z27.1 z4).bind fun z66=>(if (!z66.1)=true then (some false) else ((gy n z66.2 z27.1).bind fun z74=>(aV n a2 z4 z27 x47 z66 z74 n ([]) (0))))))
def fV (n:Nat) (a1:(List Str)) (a2:(List Str)):Option Bool :=
 ((dz n a1).bind fun z3=>((dz n a2).bind fun z4=>((qR n).bind fun z15=>(Fe z15 (some false) (fun x21=>((gH n x21 z3).bind fun z27=>((gy n z27.2 z27.1).bind fun z34=>(aU n a2 z3 z4 z27 z34 n ([]) (0)))))))))
end Pr
end Go.Ev

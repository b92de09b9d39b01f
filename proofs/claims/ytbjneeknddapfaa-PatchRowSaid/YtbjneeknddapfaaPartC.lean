import Derived.Test.YtbjneeknddapfaaPartB
import Derived.Shelf.Spec.SlicesInsertGrow
import Derived.Shelf.Strings.Builder1
import Derived.Shelf.Strings.OnBuilder
import Derived.Shelf.Strings.SplitShaped
import Derived.Shelf.Strings.SlTrimAscii
import Derived.Shelf.Small.Strs
import Derived.Shelf.Strings.Cut
import Derived.DataReads
import GoSem.ClaimChange
import Derived.WideShapes
import Derived.ChangeShapes
namespace Go.Ev
noncomputable section
open Go.Shelf Go.RowKit Go.Proofs
set_option linter.unusedVariables false
set_option linter.unusedSimpArgs false
theorem setCells_at:∀ (vs:List Value) (w:World) (b o:Nat) (arr:Array Value) (el:Nat) (fz:Nat × Nat),w.heap[b]? = some (.cells arr el fz) →
  (w.setCells b o vs).heap.size=w.heap.size∧(∀ c,c ≠ b→(w.setCells b o vs).heap[c]? = w.heap[c]?)∧(w.setCells b o vs).os=w.os∧(w.setCells b o vs).tape=w.tape∧(w.setCells b o vs).output=w.output ∧
   (w.setCells b o vs).heap[b]? = some (.cells (setAt arr.toList o vs).toArray el fz)
 | [],w,b,o,arr,el,fz,hb=>⟨rfl,fun _ _=>rfl,rfl,rfl,rfl,by simpa [setAt,World.setCells] using hb⟩
 | v :: vs,w,b,o,arr,el,fz,hb=>by
  have h1:(w.setCell ⟨b,o,none⟩ v).heap[b]? = some (.cells (arr.setIfInBounds o v) el fz):=by
   simp [World.setCell,Array.getElem?_modify,hb]
  obtain ⟨a1,a2,a3,a4,a5,a6⟩:=setCells_at vs (w.setCell ⟨b,o,none⟩ v) b (o + 1) _ el fz h1
  simp only [World.setCells]
  refine ⟨by rw [a1]; simp [World.setCell],fun c hc=>?_,a3,a4,a5,?_⟩
  ·
   rw [a2 c hc]
   simp [World.setCell,Array.getElem?_modify,Ne.symm hc]
  ·
   rw [a6]
   simp [setAt]
theorem sS {w:World} {need old e:Nat} (h:need ≤ 9223372036854775807):need ≤ grownCap w need old e∧grownCap w need old e ≤ 9223372036854775807:=by
 unfold grownCap
 simp only [Question.cut]
 have h2:(2:Nat) ^ 63=9223372036854775808:=by decide
 have h3:=Nat.mod_lt (w.tape w.drawn (.appendCap need old e)) (show 0 < 2 ^ 63 - need by omega)
 constructor <;> omega
def F9 (w:World) (b n c i m:Nat) (arr:Array Value) (el e3:Nat) (cs vs:List Value) (e:Ending) (w':World):Prop :=
 (w'.os=w.os∧w'.tape=w.tape∧w'.output=w.output) ∧
 ((n + m ≤ c∧e=.returned (.slice (some ⟨b,0,none⟩) (n + m) c)∧w'.heap.size=w.heap.size∧(∀ d,d ≠ b→w'.heap[d]? = w.heap[d]?) ∧
   ∃ arr',w'.heap[b]? = some (.cells arr' el (0,0))∧arr'.size=arr.size∧∀ (j:Nat) (v:Value),(cs.take i ++ vs ++ cs.drop i)[j]? = some v→arr'[j]? = some v) ∨
  (∃ nc arr',n + m ≤ nc∧nc ≤ 9223372036854775807∧e=.returned (.slice (some ⟨w.heap.size,0,none⟩) (n + m) nc)∧w'.heap.size=w.heap.size + 1∧(∀ d,d < w.heap.size→w'.heap[d]? = w.heap[d]?) ∧
   w'.heap[w.heap.size]? = some (.cells arr' e3 (0,0))∧arr'.size=nc∧∀ (j:Nat) (v:Value),(cs.take i ++ vs ++ cs.drop i)[j]? = some v→arr'[j]? = some v))
theorem xk {α:Type} (l cs vs:List α) (i m n:Nat) (hm:vs.length=m) (hn:cs.length=n) (hi:i ≤ n) (hl:n + m ≤ l.length) (h0:∀ (j:Nat) (v:α),j < i→cs[j]? = some v→l[j]? = some v) (j:Nat) (v:α)
  (h:(cs.take i ++ vs ++ cs.drop i)[j]? = some v):(setAt (setAt l (i + m) (cs.drop i)) i vs)[j]? = some v:=by
 have hlt:(cs.take i).length=i:=by simp; omega
 have hdl:(cs.drop i).length=n - i:=by simp; omega
 rw [dE _ _ _ _ (by rw [bR]; omega)]
 rw [List.getElem?_append,List.length_append,hlt,hm] at h
 by_cases h1:j < i + m
 ·
  rw [if_pos h1,List.getElem?_append,hlt] at h
  by_cases h2:j < i
  ·
   rw [if_pos h2,List.getElem?_take,if_pos h2] at h
   rw [if_neg (by omega),dE _ _ _ _ (by omega),if_neg (by omega)]
   exact h0 j v h2 h
  ·
   rw [if_neg h2] at h
   rw [if_pos (by omega)]; exact h
 ·
  rw [if_neg h1] at h
  have h3:j - (i + m) < (cs.drop i).length:=(List.getElem?_eq_some_iff.1 h).1
  rw [if_neg (by omega),dE _ _ _ _ (by omega),if_pos (by omega)]
  exact h
theorem Cv {α:Type} (l cs vs:List α) (i m n:Nat) (hm:vs.length=m) (hn:cs.length=n) (hi:i ≤ n) (hl:n + m ≤ l.length) (h0:∀ (j:Nat) (v:α),j < i→cs[j]? = some v→l[j]? = some v) (j:Nat) (v:α)
  (h:(cs.take i ++ vs ++ cs.drop i)[j]? = some v):(setAt (setAt l i vs) (i + m) (cs.drop i))[j]? = some v:=by
 have hlt:(cs.take i).length=i:=by simp; omega
 have hdl:(cs.drop i).length=n - i:=by simp; omega
 rw [dE _ _ _ _ (by rw [bR]; omega)]
 rw [List.getElem?_append,List.length_append,hlt,hm] at h
 by_cases h1:j < i + m
 ·
  rw [if_pos h1,List.getElem?_append,hlt] at h
  rw [if_neg (by omega),dE _ _ _ _ (by omega)]
  by_cases h2:j < i
  ·
   rw [if_pos h2,List.getElem?_take,if_pos h2] at h
   rw [if_neg (by omega)]
   exact h0 j v h2 h
  ·
   rw [if_neg h2] at h
   rw [if_pos (by omega)]; exact h
 ·
  rw [if_neg h1] at h
  have h3:j - (i + m) < (cs.drop i).length:=(List.getElem?_eq_some_iff.1 h).1
  rw [if_pos (by omega)]
  exact h
theorem zn {P:Program} {ρ:Ren} (L:Lays2.n21 P ρ) {w:World} {b n c i vb voff m vc:Nat} {arr arr2:Array Value} {el el2:Nat} {cs vs:List Value}
  (hb:w.heap[b]? = some (.cells arr el (0,0))) (hvb:w.heap[vb]? = some (.cells arr2 el2 (0,0))) (hne:vb ≠ b) (hi:i ≤ n) (hm:0 < m) (hnc:n ≤ c) (hca:c ≤ arr.size) (hc63:c ≤ 9223372036854775807)
  (hbig:(n + m) * 8 ≤ 140737488355328) (hcl:cs.length=n) (hvl:vs.length=m) (hcs:∀ (j:Nat) (v:Value),cs[j]? = some v→arr[j]? = some v) (hvs:∀ (j:Nat) (v:Value),vs[j]? = some v→arr2[voff + j]? = some v)
  (h1c:∀ v ∈ cs,v.oneCell'=true) (h1v:∀ v ∈ vs,v.oneCell'=true) :
  Calls P (ρ.f 21) #[.slice (some ⟨b,0,none⟩) n c,.int .i64 i,.slice (some ⟨vb,voff,none⟩) m vc] w (F9 w b n c i m arr el (ρ.t 3) cs vs):=by
 have hbl:b < w.heap.size:=by
  rcases Nat.lt_or_ge b w.heap.size with q | q
  ·
   exact q
  ·
   rw [Array.getElem?_eq_none q] at hb; cases hb
 have gcs:∀ (j:Nat) (v:Value),cs[j]? = some v→w.cell? ⟨b,0 + j,none⟩=some v:=fun j v h=>by rw [Nat.zero_add,cell_of hb]; exact hcs j v h
 have gvs:∀ (j:Nat) (v:Value),vs[j]? = some v→w.cell? ⟨vb,voff + j,none⟩=some v:=fun j v h=>by rw [cell_of hvb]; exact hvs j v h
 have gsp:∀ (o j:Nat),o + j < arr.size→(w.cell? ⟨b,o + j,none⟩).isSome=true:=fun o j h=>by rw [cell_of hb,Array.getElem?_eq_getElem h]; rfl
 have gfz:∀ (o:Nat),w.frozen? ⟨b,o,none⟩=false:=fun o=>by simp [World.frozen?,hb]
 have gfz2:∀ (o:Nat),w.frozen? ⟨vb,o,none⟩=false:=fun o=>by simp [World.frozen?,hvb]
 have hsb:w.shape? b=some (el,arr.size):=by simp [World.shape?,hb]
 have hsv:w.shape? vb=some (el2,arr2.size):=by simp [World.shape?,hvb]
 by_cases hroom:n + m ≤ c
 ·
  by_cases hin:i < n
  ·
   refine (Proofs.Any2.slices_Insert_int_shift L b 0 n c i vb voff m vc cs vs w hin hm hroom hc63 hne hcl hvl gcs (fun j hj=>gsp 0 j (by omega)) (fun j _=>gfz _) gvs h1c h1v el2 el arr2.size arr.size hsv hsb (by omega) (gfz2 _) (gfz2 _)).mono (fun e w' q=>?_)
   obtain ⟨rfl,rfl⟩:=q
   obtain ⟨a1,a2,a3,a4,a5,a6⟩:=setCells_at (cs.drop i) w.drew b (0 + (i + m)) arr el (0,0) hb
   obtain ⟨b1,b2,b3,b4,b5,b6⟩:=setCells_at vs _ b (0 + i) _ el (0,0) a6
   simp only [Nat.zero_add] at *
   refine ⟨⟨b3.trans a3,b4.trans a4,b5.trans a5⟩,.inl ⟨hroom,rfl,b1.trans a1,fun d hd=>(b2 d hd).trans (a2 d hd),_,b6,by simp [bR],fun j v h=>?_⟩⟩
   simp only [List.getElem?_toArray]
   exact xk arr.toList cs vs i m n hvl hcl hi (by simp; omega) (fun j v _ h=>by simpa using hcs j v h) j v h
  ·
   have hin:i=n:=by omega
   subst hin
   refine (Proofs.Any2.slices_Insert_int_end_room L b 0 i c vb voff m vc vs w hm hroom hc63 hvl (fun j hj=>by rw [Nat.zero_add]; exact gsp i j (by omega)) (fun j _=>gfz _) gvs h1v).mono (fun e w' q=>?_)
   obtain ⟨rfl,rfl⟩:=q
   obtain ⟨a1,a2,a3,a4,a5,a6⟩:=setCells_at vs w b (0 + i) arr el (0,0) hb
   simp only [Nat.zero_add] at *
   refine ⟨⟨a3,a4,a5⟩,.inl ⟨hroom,rfl,a1,a2,_,a6,by simp [bR],fun j v h=>?_⟩⟩
   simp only [List.getElem?_toArray]
   have:=xk arr.toList cs vs i m i hvl hcl hi (by simp; omega) (fun j v _ h=>by simpa using hcs j v h) j v h
   rw [← hcl,List.drop_length] at this
   rw [← hcl]
   simpa [setAt] using this
 ·
  obtain ⟨g1,g2⟩:=sS (w:=w) (need:=n + m) (old:=c) (e:=ρ.t 3) (by omega)
  by_cases hin:i < n
  ·
   refine (Proofs.Any2.slices_Insert_int_grow L b 0 n c i vb voff m vc cs vs w hin hm hnc (by omega) hbig hcl hvl gcs gvs h1c h1v).mono (fun e w' q=>?_)
   obtain ⟨rfl,rfl⟩:=q
   generalize hrow:(cs.take i).toArray ++ Builtin.zeroCells (Value.int .i64 0).cells (n + m - i) ++ Builtin.zeroCells (Value.int .i64 0).cells (grownCap w (n + m) c (ρ.t 3) - (n + m))=ROW
   have hrs:ROW.size=grownCap w (n + m) c (ρ.t 3):=by
    rw [← hrow]; simp [gF,Value.cells]; omega
   have h0:(w.alloc (.cells ROW (ρ.t 3))).drew.heap[w.heap.size]? = some (.cells ROW (ρ.t 3) (0,0)):=heap_alloc_new w _
   obtain ⟨a1,a2,a3,a4,a5,a6⟩:=setCells_at vs (w.alloc (.cells ROW (ρ.t 3))).drew w.heap.size i ROW (ρ.t 3) (0,0) h0
   obtain ⟨b1,b2,b3,b4,b5,b6⟩:=setCells_at (cs.drop i) (((w.alloc (.cells ROW (ρ.t 3))).drew.setCells w.heap.size i vs).drew) w.heap.size (i + m) _ (ρ.t 3) (0,0) a6
   refine ⟨⟨b3.trans a3,b4.trans a4,b5.trans a5⟩,.inr ⟨_,_,g1,g2,rfl,?_,fun d hd=>?_,b6,by simp [bR,hrs],fun j v h=>?_⟩⟩
   ·
    rw [b1]; show ((w.alloc (.cells ROW (ρ.t 3))).drew.setCells w.heap.size i vs).heap.size=_; rw [a1]; show (w.alloc (.cells ROW (ρ.t 3))).heap.size=_; rw [size_alloc]
   ·
    rw [b2 d (by omega)]; show ((w.alloc (.cells ROW (ρ.t 3))).drew.setCells w.heap.size i vs).heap[d]? = _; rw [a2 d (by omega)]; exact heap_alloc_old w _ hd
   ·
    simp only [List.getElem?_toArray]
    refine Cv ROW.toList cs vs i m n hvl hcl hi (by simp [hrs]; omega) (fun j v hj h=>?_) j v h
    rw [← hrow]
    simp only [Array.toList_append,List.append_assoc]
    rw [List.getElem?_append_left (by simp; omega)]
    simpa [List.getElem?_take,hj] using h
  ·
   have hin:i=n:=by omega
   subst hin
   refine (Proofs.Any2.slices_Insert_int_end_grow L (some ⟨b,0,none⟩) i c vb voff m vc cs vs w hm hnc (by omega) hbig hcl hvl (fun q=>by cases q) (fun a ha j v h=>by cases ha; rw [iw]; exact gcs j v h) gvs h1v).mono (fun e w' q=>?_)
   obtain ⟨rfl,rfl⟩:=q
   refine ⟨⟨rfl,rfl,rfl⟩,.inr ⟨_,_,g1,g2,rfl,size_alloc w.drew _,fun d hd=>heap_alloc_old w.drew _ hd,heap_alloc_new w.drew _,by simp [gF,Value.cells,hcl,hvl]; omega,fun j v h=>?_⟩⟩
   rw [← hcl,List.take_length,List.drop_length,List.append_nil] at h
   have hlt:=(List.getElem?_eq_some_iff.1 h).1
   rw [Array.getElem?_append_left (by simpa using hlt)]
   simpa using h
theorem insert_nil {P:Program} {ρ:Ren} (L:Lays2.n21 P ρ) {w:World} {vb voff m vc:Nat} {arr2:Array Value} {el2:Nat} {vs:List Value}
  (hvb:w.heap[vb]? = some (.cells arr2 el2 (0,0))) (hm:0 < m)
  (hbig:m * 8 ≤ 140737488355328) (hvl:vs.length=m) (hvs:∀ (j:Nat) (v:Value),vs[j]? = some v→arr2[voff + j]? = some v) (h1v:∀ v ∈ vs,v.oneCell'=true) :
  Calls P (ρ.f 21) #[.slice none 0 0,.int .i64 0,.slice (some ⟨vb,voff,none⟩) m vc] w fun e w'=>∃ nc rest,m ≤ nc∧nc ≤ 9223372036854775807∧rest.size=nc - m∧e=.returned (.slice (some ⟨w.heap.size,0,none⟩) m nc) ∧
   w'=w.drew.alloc (.cells (vs.toArray ++ rest) (ρ.t 3)):=by
 obtain ⟨g1,g2⟩:=sS (w:=w) (need:=0 + m) (old:=0) (e:=ρ.t 3) (by omega)
 have gvs:∀ (j:Nat) (v:Value),vs[j]? = some v→w.cell? ⟨vb,voff + j,none⟩=some v:=fun j v h=>by rw [cell_of hvb]; exact hvs j v h
 refine (Proofs.Any2.slices_Insert_int_end_grow L none 0 0 vb voff m vc [] vs w hm (Nat.le_refl _) (by omega) (by omega) rfl hvl (fun _=>rfl) (fun a ha=>by cases ha) gvs h1v).mono (fun e w' q=>?_)
 obtain ⟨rfl,rfl⟩:=q
 simp only [Nat.zero_add,List.nil_append] at *
 exact ⟨_,_,g1,g2,by simp [gF,Value.cells],rfl,rfl⟩
def lK (args:List AV) (S:St):Option (AV × St) :=
 match args with
 | [.dC id g off len lim sz,.d (.int k i),.dC id2 g2 off2 len2 lim2 sz2] =>
  match S.look id g,S.look id2 g2 with
  | some cs,some vs =>
   if off=0∧sz=1∧sz2=1∧k=.i64∧id2 ≠ id∧0 ≤ i∧i.toNat ≤ len∧len ≤ cs.length∧0 < len2∧off2 + len2 ≤ vs.length∧(len + len2) * 8 ≤ 140737488355328 then
    some (.dC id (g + 1) 0 (len + len2) (len + len2) 1,{ S with H:=S.H.set id (.cells (g + 1) ((cs.take len).take i.toNat ++ (vs.drop off2).take len2 ++ (cs.take len).drop i.toNat)) })
   else none
  | _,_=>none
 | [.d .aT,.d (.int k i),.dC id2 g2 off2 len2 lim2 sz2] =>
  match S.look id2 g2 with
  | some vs =>
   if sz2=1∧k=.i64∧i=0∧0 < len2∧off2 + len2 ≤ vs.length∧len2 * 8 ≤ 140737488355328 then
    some (.dC S.nx 0 0 len2 len2 1,(gT S ((vs.drop off2).take len2)).2)
   else none
  | none=>none
 | _=>none
theorem yu {R:bK} (hR:ObjOk R) {P:Program} {ρ:Ren} (L:Lays2.n21 P ρ) {args:List AV} {S S':St} {v:AV} (h:lK args S=some (v,S')) {cx:Cx} {w:World} {us:List Value} (hS:aY R cx S w)
  (hl:us.length=args.length) (hr:∀ (i:Nat) (x:AV) (u:Value),args[i]? = some x→us[i]? = some u→aN cx S w x u) :
  Calls P (ρ.f 21) us.toArray w (fun e w'=>∃ cx',aY R cx' S' w'∧Ext cx S w cx' S' w'∧∃ u,e=.returned u∧aN cx' S' w' v u):=by
 unfold lK at h
 split at h
 ·
  rename_i id g off len lim sz k i id2 g2 off2 len2 lim2 sz2
  split at h
  ·
   rename_i cs vs hlk hlk2
   split at h
   ·
    rename_i hc
    obtain ⟨rfl,rfl,rfl,rfl,hne,hi0,hil,hlc,hm,hov,hbig⟩:=hc
    simp only [Option.some.injEq,Prod.mk.injEq] at h
    obtain ⟨rfl,rfl⟩:=h
    match us,hl with
    | [u0,u1,u2],_ =>
    have r0:=hr 0 _ _ rfl rfl
    have r1:=hr 1 _ _ rfl rfl
    have r2:=hr 2 _ _ rfl rfl
    cases r1 with
    | d _ _ r1 =>
    have a1:=r1.val rfl; cases a1
    have hk:=jJ hlk
    have hk2:=jJ hlk2
    have hlive:cur S id=some g:=by simp [cur,hk]
    have hlive2:cur S id2=some g2:=by simp [cur,hk2]
    cases r0 with
    | dC _ _ _ _ _ _ b cap hn hll hcap h63 hp =>
    cases r2 with
    | dC _ _ _ _ _ _ b2 cap2 hn2 hll2 hcap2 h632 hp2 =>
    obtain ⟨rfl,p2,p3⟩:=hp hlive
    obtain ⟨rfl,q2,q3⟩:=hp2 hlive2
    obtain ⟨c1,c2,arr,el,c3,c4,c5⟩:=hS.cells id g cs hk
    obtain ⟨d1,d2,arr2,el2,d3,d4,d5⟩:=hS.cells id2 g2 vs hk2
    have hbne:cx.bm id2 ≠ cx.bm id:=fun q=>hne (hS.sep id2 id (cx.bm id) (by simp [live,hlive2]) (by simp [live,hlive]) ((d1 _).2 q.symm) ((c1 _).2 rfl))
    have pc:=nS c4.2.2 c5 0 len (by omega)
    have pv:=nS d4.2.2 d5 off2 len2 (by omega)
    simp only [List.drop_zero] at pc
    have hcV:(arr.toList.take len).length=len:=by simp; have:=c4.2.2; omega
    have hvV:((arr2.toList.drop off2).take len2).length=len2:=by simp; have:=d4.2.2; omega
    have pL:Pw (aN cx S w) ((cs.take len).take i.toNat ++ (vs.drop off2).take len2 ++ (cs.take len).drop i.toNat) ((arr.toList.take len).take i.toNat ++ (arr2.toList.drop off2).take len2 ++ (arr.toList.take len).drop i.toNat):=by
     refine Pw.append (Pw.append ?_ pv) ?_
     ·
      have:=pc.Js 0 i.toNat
      simpa using this
     ·
      have:=pc.Js i.toNat (len - i.toNat)
      have e1:((cs.take len).drop i.toNat).take (len - i.toNat)=(cs.take len).drop i.toNat:=List.take_of_length_le (by simp; omega)
      have e2:((arr.toList.take len).drop i.toNat).take (len - i.toNat)=(arr.toList.take len).drop i.toNat:=List.take_of_length_le (by rw [List.length_drop,hcV]; omega)
      rw [e1,e2] at this
      exact this
    have hLl:((cs.take len).take i.toNat ++ (vs.drop off2).take len2 ++ (cs.take len).drop i.toNat).length=len + len2:=by simp; omega
    generalize hLL:(cs.take len).take i.toNat ++ (vs.drop off2).take len2 ++ (cs.take len).drop i.toNat=LL at pL hLl ⊢
    generalize hVV:(arr.toList.take len).take i.toNat ++ (arr2.toList.drop off2).take len2 ++ (arr.toList.take len).drop i.toNat=VV at pL
    have hi:(Value.int .i64 i)=.int .i64 ((i.toNat:Nat):Int):=by rw [Int.toNat_of_nonneg hi0]
    rw [hi]
    have hcurn:cur { S with H:=S.H.set id (.cells (g + 1) LL) } id=some (g + 1):=by unfold cur; simp [AL.aO]
    have hnm:Names { S with H:=S.H.set id (.cells (g + 1) LL) } id (g + 1):=⟨hn.1,fun g' hg=>by rw [hcurn] at hg; simp at hg; omega⟩
    refine (zn L (i:=i.toNat) (c:=cap) (voff:=off2) (vc:=cap2) c3 d3 hbne hil hm (by omega) (by rw [c4.1]; omega) h63 hbig hcV hvV (fun j v hj=>by
     rw [List.getElem?_take] at hj
     split at hj
     ·
      simpa using hj
     ·
      cases hj) (fun j v hj=>by
     rw [List.getElem?_take] at hj
     split at hj
     ·
      rw [List.getElem?_drop] at hj; simpa using hj
     ·
      cases hj) (fun v hv=>pc.2.1 v hv) (fun v hv=>pv.2.1 v hv)).mono (fun e w' hpost=>?_)
    obtain ⟨⟨o1,o2,o3⟩,hpost⟩:=hpost
    rw [hVV] at hpost
    rcases hpost with ⟨hfit,rfl,s1,s2,arr',s3,s4,s5⟩ | ⟨nc,arr',g1,g2,rfl,s1,s2,s3,s4,s5⟩
    ·
     let cx':Cx:={ cx with lC:=fun i=>if i=id then len + len2 else cx.lC i }
     obtain ⟨k1,k2⟩:=qM hR (cx':=cx') (w':=w') (g':=g + 1) (cs':=LL) hS hk (by omega) (by omega) o1 o2 o3 (fun b _ hb=>s2 b hb) (fun _ _=>rfl) (fun _ _ _=>Iff.rfl) (fun i hi=>by simp [cx',hi]) (fun _ _=>rfl)
      (fun b hb=>.inl ((c1 b).1 hb)) (fun b o hf _=>hf) (fun b o hf=>hf) (fun b o hf=>by rw [s1]; exact hS.lt b o hf) (fun ext=>by
      refine ⟨c1,c2,arr',el,s3,⟨by rw [s4]; exact c4.1,by simp only [cx',if_true]; exact hLl,by rw [hLl,s4,c4.1]; omega⟩,fun j x hx=>?_⟩
      have hlt:j < VV.length:=by rw [pL.1]; exact (List.getElem?_eq_some_iff.1 hx).1
      have hu:=List.getElem?_eq_getElem hlt
      exact ⟨_,s5 j _ hu,(pL.2.2 j x _ hx hu).mono ext,pL.2.1 _ (List.getElem_mem hlt)⟩)
     exact ⟨cx',k1,k2,_,rfl,.dC id (g + 1) 0 (len + len2) (len + len2) _ _ cap hnm (Nat.le_refl _) hfit h63 (fun _=>⟨rfl,by simp only [cx',if_true,Nat.zero_add,Nat.mul_one]; exact hfit,p3⟩)⟩
    ·
     let cx':Cx:={ bm:=fun i=>if i=id then w.heap.size else cx.bm i,fp:=fun i b=>if i=id then b=w.heap.size else cx.fp i b,lC:=fun i=>if i=id then len + len2 else cx.lC i,tot:=fun i=>if i=id then nc else cx.tot i,fr:=fun b o=>b=w.heap.size∨cx.fr b o }
     obtain ⟨k1,k2⟩:=qM hR (cx':=cx') (w':=w') (g':=g + 1) (cs':=LL) hS hk (by omega) (by omega) o1 o2 o3
      (fun b hb _=>s2 b hb) (fun i hi=>by simp [cx',hi]) (fun i hi b=>by simp [cx',hi]) (fun i hi=>by simp [cx',hi]) (fun i hi=>by simp [cx',hi])
      (fun b hb=>.inr (by simp only [cx',if_true] at hb; subst hb; omega))
      (fun b o hf hlt q=>q.elim (fun q=>absurd q (by omega)) (fun q=>hf q)) (fun b o hf=>.inr hf) (fun b o q=>by rw [s1]; exact q.elim (fun q=>by rw [q]; exact Nat.lt_succ_self _) (fun q=>Nat.lt_succ_of_lt (hS.lt b o q)))
      (fun ext=>by
      refine ⟨fun b=>by simp [cx'],fun o=>by simp [cx'],arr',_,by simp only [cx',if_true]; exact s3,⟨by simp only [cx',if_true]; exact s4,by simp only [cx',if_true]; exact hLl,by rw [s4,hLl]; exact g1⟩,fun j x hx=>?_⟩
      have hlt:j < VV.length:=by rw [pL.1]; exact (List.getElem?_eq_some_iff.1 hx).1
      have hu:=List.getElem?_eq_getElem hlt
      exact ⟨_,s5 j _ hu,(pL.2.2 j x _ hx hu).mono ext,pL.2.1 _ (List.getElem_mem hlt)⟩)
     exact ⟨cx',k1,k2,_,rfl,.dC id (g + 1) 0 (len + len2) (len + len2) _ _ nc hnm (Nat.le_refl _) g1 g2 (fun _=>⟨by simp [cx'],by simp only [cx',if_true,Nat.zero_add,Nat.mul_one]; exact g1,by simp only [cx',if_true,Nat.zero_add,Nat.mul_one]; exact Nat.le_refl _⟩)⟩
   ·
    cases h
  ·
   cases h
 ·
  rename_i k i id2 g2 off2 len2 lim2 sz2
  split at h
  ·
   rename_i vs hlk2
   split at h
   ·
    rename_i hc
    obtain ⟨rfl,rfl,rfl,hm,hov,hbig⟩:=hc
    simp only [Option.some.injEq,Prod.mk.injEq] at h
    obtain ⟨rfl,rfl⟩:=h
    match us,hl with
    | [u0,u1,u2],_ =>
    have r0:=hr 0 _ _ rfl rfl
    have r1:=hr 1 _ _ rfl rfl
    have r2:=hr 2 _ _ rfl rfl
    cases r0 with
    | d _ _ r0 =>
    cases r1 with
    | d _ _ r1 =>
    have a0:=r0.val rfl; cases a0
    have a1:=r1.val rfl; cases a1
    have hk2:=jJ hlk2
    have hlive2:cur S id2=some g2:=by simp [cur,hk2]
    cases r2 with
    | dC _ _ _ _ _ _ b2 cap2 hn2 hll2 hcap2 h632 hp2 =>
    obtain ⟨rfl,q2,q3⟩:=hp2 hlive2
    obtain ⟨d1,d2,arr2,el2,d3,d4,d5⟩:=hS.cells id2 g2 vs hk2
    have pv:=nS d4.2.2 d5 off2 len2 (by omega)
    have hvV:((arr2.toList.drop off2).take len2).length=len2:=by simp; have:=d4.2.2; omega
    refine (insert_nil L (voff:=off2) (vc:=cap2) d3 hm hbig hvV (fun j v hj=>by
     rw [List.getElem?_take] at hj
     split at hj
     ·
      rw [List.getElem?_drop] at hj; simpa using hj
     ·
      cases hj) (fun v hv=>pv.2.1 v hv)).mono (fun e w' hpost=>?_)
    obtain ⟨nc,rest,g1,g2,g3,rfl,rfl⟩:=hpost
    obtain ⟨hd1,hd2⟩:=mG hR hS
    obtain ⟨cx',k1,k2,k3⟩:=lJ hR hd1 _ _ rest (ρ.t 3) len2 1 nc (pv.mono hd2) (by rw [← pv.1,hvV,Nat.mul_one]) g1 g2 (by rw [g3,Nat.mul_one])
    exact ⟨cx',k1,hd2.trans k2,_,rfl,k3⟩
   ·
    cases h
  ·
   cases h
 ·
  cases h
end
end Go.Ev

namespace Go.Ev
noncomputable section
open Go.Shelf Go.RowKit Go.Proofs
set_option linter.unusedVariables false
set_option linter.unusedSimpArgs false
structure Jj (T e:Nat) (b:Nat) (p v:Value) (xs:List Value) (w:World):Prop where
 hp:p=.pointer none∨p=.pointer (some ⟨b,0,none⟩)
 blk:w.heap[b]? = some (.cells #[p,v] T (0,0))
 own:w.ownsRow 0 e 1 v xs.length xs
 ne:v.ownBlock ≠ some b
end
end Go.Ev

namespace Go.Ev
noncomputable section
open Go.Shelf Go.RowKit Go.Proofs
set_option linter.unusedVariables false
set_option linter.unusedSimpArgs false
def Ia (T e:Nat) (k:Nat) (x:D) (w:World) (b:Nat) (F:Nat→Prop):Prop :=
 k=1∧∃ l p v,x=.str l∧Jj T e b p v (Lib.byteCells l) w∧∀ c,F c↔(c=b∨v.ownBlock=some c)
def Jb (k:Nat) (w:World) (b:Nat) (F:Nat→Prop):Prop:=k=3∧b < w.heap.size∧∀ c,F c↔c=b
def Km (T e:Nat) (G:World→(Nat→Nat→Prop)→Prop):bK:={ rel:=fun k x w b F=>Ia T e k x w b F∨Jb k w b F,G:=G }
def EX (G:World→(Nat→Nat→Prop)→Prop):Prop :=
 ∀ (w w':World) (fr fr':Nat→Nat→Prop),G w fr→(∀ (b o:Nat) (v:Value),¬ fr b o→w.cell? ⟨b,o,none⟩=some v→w'.cell? ⟨b,o,none⟩=some v∧¬ fr' b o)→G w' fr'
theorem Es {e:Nat} {v:Value} {n:Nat} {xs:List Value} {w w':World} (h:w.ownsRow 0 e 1 v n xs) (hk:∀ c,v.ownBlock=some c→w'.heap[c]? = w.heap[c]?):w'.ownsRow 0 e 1 v n xs:=by
 refine ⟨h.1,?_⟩
 rcases h.2 with q | ⟨g,cap,cur,rfl,q1,q2,q3⟩
 ·
  exact .inl q
 ·
  exact .inr ⟨g,cap,cur,rfl,q1,by rw [hk g rfl]; exact q2,q3⟩
theorem Jt {T e:Nat} {G:World→(Nat→Nat→Prop)→Prop} (hG:EX G):ObjOk (Km T e G) where
 frame:=fun k x w w' b F h hF=>by
  rcases h with h | ⟨h1,h2,h3⟩
  ·
   obtain ⟨hk,l,p,v,hx,⟨h1,h2,h3,h4⟩,hf⟩:=h
   exact .inl ⟨hk,l,p,v,hx,⟨h1,by rw [hF b ((hf b).2 (.inl rfl))]; exact h2,Es h3 (fun c hc=>hF c ((hf c).2 (.inr hc))),h4⟩,hf⟩
  ·
   refine .inr ⟨h1,?_,h3⟩
   have:=hF b ((h3 b).2 rfl)
   rcases Nat.lt_or_ge b w'.heap.size with q | q
   ·
    exact q
   ·
    rw [Array.getElem?_eq_none q,Array.getElem?_eq_getElem h2] at this; cases this
 lt:=fun k x w b F h=>by
  rcases h with h | ⟨h1,h2,h3⟩
  ·
   obtain ⟨hk,l,p,v,hx,⟨h1,h2,h3,h4⟩,hf⟩:=h
   refine ⟨fun c hc=>?_,(hf b).2 (.inl rfl)⟩
   rcases (hf c).1 hc with rfl | hc
   ·
    rcases Nat.lt_or_ge c w.heap.size with q | q
    ·
     exact q
    ·
     rw [Array.getElem?_eq_none q] at h2; cases h2
   ·
    exact (h3.lt c hc).2
  ·
   exact ⟨fun c hc=>by rw [(h3 c).1 hc]; exact h2,(h3 b).2 rfl⟩
 it:=fun x w b F=>by
  constructor
  ·
   rintro (⟨h,_⟩ | ⟨_,h1,h2⟩)
   ·
    cases h
   ·
    exact ⟨h1,h2⟩
  ·
   rintro ⟨h1,h2⟩
   exact .inr ⟨rfl,h1,h2⟩
 stat:=hG
end
end Go.Ev

namespace Go.Ev
noncomputable section
open Go.Shelf Go.RowKit Go.Proofs
set_option linter.unusedVariables false
set_option linter.unusedSimpArgs false
abbrev Prim:=List AV→St→Option (AV × St)
structure zP (R:bK) (P:Program) (f:Nat) (p:Prim):Prop where
 pure:∀ args S v S',p args S=some (v,S')→(lI args).isSome=true→(Aw v).isSome=true→∀ S2,p args S2=some (v,S2)
 calls:∀ args S v S',p args S=some (v,S')→(∃ fn,P.funcs[f]? = some fn∧fn.body.isSome=true∧fn.name ≠ "runtime.NumGoroutine") ∧
  ∀ cx w (us:List Value),aY R cx S w→us.length=args.length→(∀ (i:Nat) (x:AV) (u:Value),args[i]? = some x→us[i]? = some u→aN cx S w x u) →
  Calls P f us.toArray w (fun e w'=>∃ cx',aY R cx' S' w'∧Ext cx S w cx' S' w'∧∃ u,e=.returned u∧aN cx' S' w' v u)
theorem Im {R:bK} (hR:ObjOk R) {P:Program} {ρ:Shelf.Ren} (L:Proofs.Lays2.n21 P ρ):zP R P (ρ.f 21) lK where
 pure:=fun args S v S' h h1=>by
  exfalso
  unfold lK at h
  split at h
  ·
   simp [lI,xY] at h1
  ·
   simp [lI,xY] at h1
  ·
   cases h
 calls:=fun args S v S' h=>⟨⟨_,L.f21,rfl,by show ¬ ("slices.Insert[[]int,int]" = "runtime.NumGoroutine"); decide⟩,fun cx w us hS hl hr=>yu hR L h hS hl hr⟩
end
end Go.Ev

namespace Go.Ev
noncomputable section
open Go.Shelf Go.RowKit Go.Proofs
set_option linter.unusedVariables false
set_option linter.unusedSimpArgs false
end
end Go.Ev

namespace Go.Ev
noncomputable section
set_option linter.unusedVariables false
def Lb:World→(Nat→Nat→Prop)→Prop:=fun _ _=>True
theorem JU:EX Lb:=fun _ _ _ _ _ _=>trivial
end
end Go.Ev

namespace Go.Ev
noncomputable section
set_option linter.unusedVariables false
set_option linter.unusedSimpArgs false
def ED:Nat→Nat→Prop:=fun _ _=>False
structure wV (w:World) (ds:List D) (cs:List Value):Prop where
 len:cs.length=ds.length
 one:∀ v ∈ cs,v.oneCell'=true
 flat:∀ d ∈ ds,d.isAgg=false
 rel:∀ (i:Nat) (d:D) (v:Value),ds[i]? = some d→cs[i]? = some v→gq w ED d [v]
theorem wV.single {w:World} {d:D} {v:Value} (h:gq w ED d [v]) (ho:v.oneCell'=true) (hd:d.isAgg=false):wV w [d] [v] where
 len:=rfl
 one:=by simpa using ho
 flat:=by simpa using hd
 rel:=fun i d' v' h1 h2=>by
  cases i with
  | zero=>simp at h1 h2; subst h1; subst h2; exact h
  | succ i=>simp at h1
theorem wV.Ja {w:World} {x:D} {cs:List Value} (h:wV w x.cells cs):gq w ED x cs:=by
 cases hx:x.isAgg with
 | true =>
  cases x <;> simp [D.isAgg] at hx
  rename_i xs
  exact .agg xs cs h.len h.one h.flat h.rel
 | false =>
  have hc:x.cells=[x]:=by cases x <;> simp_all [D.isAgg,D.cells]
  rw [hc] at h
  have hl:=h.len
  match cs,hl with
  | [v],_=>exact h.rel 0 x v rfl rfl
def yM (P:Program) (t:Nat) {α:Type} (enc:α→D) (wf:α→Prop):Prop :=
 ∀ {H:Type} (en:TypeId × Value→H) (w:World) (base:Nat) (sp:Nat→Bool) (held:Bool) (fuel:Nat) (cs:List Value) (d:DataW H) (p:List MemPlace),
  DataW.trod en P w base sp held fuel t cs=some (d,p)→∃ x,wf x∧wV w (enc x).cells cs
theorem yM.int {P:Program} {t:Nat} {k:IntKind} (hu:P.underlying t=some (.int k)):yM P t (D.int k) (fun n=>(Lit.int k n).wf=true):=by
 intro H en w base sp held fuel cs d p h
 cases fuel with
 | zero=>cases h
 | succ fuel =>
  simp only [DataW.trod,hu] at h
  split at h <;> first | (simp_all; done) | skip
  rename_i k' k2 n heq
  simp only [Option.some.injEq,TypeDesc.int.injEq] at heq
  subst heq
  split at h
  ·
   rename_i hc
   obtain ⟨rfl,hw⟩:=hc
   exact ⟨n,hw,.single (.int _ _) rfl rfl⟩
  ·
   cases h
theorem uy {w:World} {base:Nat} {a:Addr} {n:Nat} {cs:List Value} (h:w.cells? base a n=some cs):cs.length=n∧∀ j v,cs[j]? = some v→w.cell? (a.add j)=some v:=by
 unfold World.cells? at h
 split at h
 ·
  have hl:=mapM_some_length h
  refine ⟨by simpa using hl,fun j v hj=>?_⟩
  have hlt:j < n:=by have:=(List.getElem?_eq_some_iff.1 hj).1; rw [hl] at this; simpa using this
  have:=mapM_some_get h j j (by simp [hlt])
  rw [this,hj]
 ·
  cases h
theorem yM.slice {P:Program} {t e:Nat} {α:Type} {enc:α→D} {wf:α→Prop} (hu:P.underlying t=some (.slice e)) (he:yM P e enc wf) (hsz:∀ x,(enc x).cells.length=P.cellsOf e) (h0:0 < P.cellsOf e) :
  yM P t (JF enc) (fun l=>l.length ≤ maxLen∧∀ x ∈ l,wf x):=by
 intro H en w base sp held fuel cs d p h
 cases fuel with
 | zero=>cases h
 | succ fuel =>
  simp only [DataW.trod,hu] at h
  split at h <;> first | (simp_all; done) | skip
  ·
   exact ⟨[],⟨by simp,by simp⟩,.single (.sl0 none 0 false (fun h=>by cases h)) rfl rfl⟩
  ·
   rename_i e' a len cap heq
   simp only [Option.some.injEq,TypeDesc.slice.injEq] at heq
   subst heq
   split at h
   ·
    rename_i hc
    simp only [Option.bind_eq_some_iff] at h
    obtain ⟨els,hels,h⟩:=h
    have hl:=mapM_some_length hels
    have each:∀ i,i < len→∃ x ci,wf x∧w.cells? base (a.add (i * P.cellsOf e)) (P.cellsOf e)=some ci∧wV w (enc x).cells ci:=fun i hi=>by
     have hg:=mapM_some_get hels i i (by simp [hi])
     have hlt:i < els.length:=by rw [hl]; simpa using hi
     rw [List.getElem?_eq_getElem hlt,Option.bind_eq_some_iff] at hg
     obtain ⟨ci,h1,h2⟩:=hg
     obtain ⟨x,hx,hr⟩:=he en w base sp held fuel ci _ _ h2
     exact ⟨x,ci,hx,h1,hr⟩
    by_cases hz:len=0
    ·
     subst hz
     exact ⟨[],⟨by simp,by simp⟩,.single (.sl0 (some a) cap false (fun h=>by cases h)) rfl rfl⟩
    ·
     have hpos:0 < len:=by omega
     have hspot:a.spot=none:=by
      obtain ⟨x,ci,_,h1,_⟩:=each 0 hpos
      obtain ⟨l1,l2⟩:=uy h1
      have hne:0 < ci.length:=by omega
      have:=l2 0 ci[0] (List.getElem?_eq_getElem hne)
      unfold World.cell? at this
      split at this
      ·
       split at this
       ·
        cases this
       ·
        rename_i hs; cases hsp:a.spot with
        | none=>rfl
        | some q=>simp [Addr.add,hsp] at hs
      ·
       cases this
     have:Inhabited α:=⟨(each 0 hpos).choose⟩
     let f:Nat→α:=fun i=>if hi:i < len then (each i hi).choose else default
     let g:Nat→List Value:=fun i=>if hi:i < len then (each i hi).choose_spec.choose else []
     have hfg:∀ i,i < len→wf (f i)∧w.cells? base (a.add (i * P.cellsOf e)) (P.cellsOf e)=some (g i)∧wV w (enc (f i)).cells (g i):=fun i hi=>by
      have:=(each i hi).choose_spec.choose_spec
      simp only [f,g,hi,dif_pos]
      exact this
     let l:=(List.range len).map f
     have hll:l.length=len:=by simp [l]
     have hli:∀ i x,l[i]? = some x→i < len∧x=f i:=fun i x hx=>by
      simp only [l,List.getElem?_map,Option.map_eq_some_iff] at hx
      obtain ⟨j,hj,rfl⟩:=hx
      have:=List.getElem?_eq_some_iff.1 hj
      obtain ⟨h1,h2⟩:=this
      simp at h1 h2
      subst h2
      exact ⟨h1,rfl⟩
     refine ⟨l,⟨by rw [hll]; omega,fun x hx=>?_⟩,?_⟩
     ·
      obtain ⟨i,hi,rfl⟩:=List.getElem_of_mem hx
      obtain ⟨h1,h2⟩:=hli i _ (List.getElem?_eq_getElem hi)
      rw [h2]; exact (hfg i h1).1
     ·
      have ha:a=⟨a.block,a.off,none⟩:=by rw [← hspot]
      refine .single ?_ rfl rfl
      rw [ha]
      have hlm:(l.map enc).length=len:=by simp [hll]
      have key:gq w ED (.sl (l.map enc) false) [.slice (some ⟨a.block,a.off,none⟩) (l.map enc).length cap]:=by
       refine .sl (l.map enc) false a.block a.off cap (P.cellsOf e) g ?_ (by rw [hlm]; exact hc.2.1) (fun h=>by cases h) (fun i x hi=>?_) (fun i hi=>?_) (fun i x hi=>?_) (fun i j v hi hv=>?_)
       ·
        intro q; rw [q] at hlm; simp at hlm; omega
       ·
        rw [List.getElem?_map,Option.map_eq_some_iff] at hi
        obtain ⟨y,_,rfl⟩:=hi
        exact hsz y
       ·
        exact (uy (hfg i (by rw [hlm] at hi; exact hi)).2.1).1
       ·
        rw [List.getElem?_map,Option.map_eq_some_iff] at hi
        obtain ⟨y,hy,rfl⟩:=hi
        obtain ⟨h1,rfl⟩:=hli i y hy
        exact (hfg i h1).2.2.Ja
       ·
        rw [hlm] at hi
        have:=(uy (hfg i hi).2.1).2 j v hv
        refine ⟨?_,fun q=>q⟩
        rw [← this]
        congr 1
        have hz:∀ (b:Addr) (m:Nat),b.spot=none→b.add m=⟨b.block,b.off + m,none⟩:=fun b m hb=>by
         obtain ⟨b1,b2,b3⟩:=b
         cases hb
         cases m <;> simp [Addr.add]
        rw [hz a _ hspot,hz _ j rfl]
      rw [hlm] at key
      exact key
   ·
    cases h
theorem Jv {P:Program} {t:Nat} {α:Type} {enc:α→D} {wf:α→Prop} (O:yM P t enc wf) (ha:∀ x,(enc x).isAgg=false)
  {H:Type} {en:TypeId × Value→H} {w:World} {base b0:Nat} {sp:Nat→Bool} {held:Bool} {v:Value} {d:DataW H} {p:List MemPlace} (hval:tK v=false) (hd:DataW.Trod en P w base sp held t v d p) :
  ∃ x,wf x∧bB w ED (enc x) v:=by
 obtain ⟨fuel,hf⟩:=hd
 obtain ⟨x,x1,x2⟩:=O en w base sp held fuel _ d p hf
 exact ⟨x,x1,x2.Ja,by rw [hval]; exact ha x⟩
end
end Go.Ev

namespace Go.Ev
noncomputable section
set_option linter.unusedVariables false
set_option linter.unusedSimpArgs false
variable {R:bK} {C:fB} {P:Program}
theorem gZ.Gp {f:Nat} {p:Prim} (h:zP R P f p) {args:List AV} {S S':St} {v:AV} (hp:p args S=some (v,S')):gZ R P f args S (fun r=>r=(none,v,S')):=by
 obtain ⟨h1,h2⟩:=h.calls args S v S' hp
 refine ⟨h1,fun cx w us q1 q2 q3=>(h2 cx w us q1 q2 q3).mono (fun e w' ⟨cx',k1,k2,u,k3,k4⟩=>⟨_,rfl,cx',k1,k2,u,k3,k4⟩)⟩
theorem F6 (hR:ObjOk R) {f:Nat} {ds:List D} {x:D} (h:gY R P f ds (.d x)) (w:World) (hG:R.G w (fun _ _=>False)) (us:List Value) (hl:us.length=ds.length)
  (hr:∀ (i:Nat) (y:D) (u:Value),ds[i]? = some y→us[i]? = some u→bB w (fun _ _=>False) y u) :
  Calls P f us.toArray w (fun e w'=>∃ u,e=.returned u∧bB w' (fun _ _=>False) x u∧RowKit.Below w.heap.size w w'):=by
 let cx:Cx:={ bm:=fun _=>0,fp:=fun _ _=>False,lC:=fun _=>0,tot:=fun _=>0,fr:=fun _ _=>False }
 have hS:aY R cx aM w:=⟨fun id hl=>absurd rfl hl,fun id b hb=>by simp [aM,AL.get] at hb,fun id g cs hb=>by simp [aM,AL.get] at hb,fun id es hb=>by simp [aM,AL.get] at hb,
  fun id k x hb=>by simp [aM,AL.get] at hb,fun id en hb=>by simp [aM,AL.get] at hb,fun id id' b hl=>absurd rfl hl,fun b o q=>q.elim,hG⟩
 have h2:=(h (ds.map .d) aM ⟨ds,Cj ds,.refl ds⟩).2
 refine (h2 cx w us hS (by simp [hl]) (fun i y u hy hu=>?_)).mono (fun e w' he=>?_)
 ·
  simp only [List.getElem?_map,Option.map_eq_some_iff] at hy
  obtain ⟨z,hz,rfl⟩:=hy
  exact .d z u (hr i z u hz hu)
 ·
  obtain ⟨r,rfl,cx',k1,k2,k3⟩:=he
  obtain ⟨u,rfl,k3⟩:=k3
  obtain ⟨m1,m2,m3⟩:=yV hR hS k2
  exact ⟨u,rfl,m3 _ _ k3.dd,⟨m2.os,m2.tape,m2.output,m2.size,fun b hb=>(k2.other b hb (fun id hl=>absurd rfl hl)).1⟩⟩
end
end Go.Ev

namespace Go.Ev
noncomputable section
set_option linter.unusedVariables false
set_option linter.unusedSimpArgs false
variable {R:bK} {P:Program} {B:St}
theorem kR {S:St} {id:Nat}:live S id↔S.H.get id ≠ none∨S.T.get id ≠ none:=by
 unfold live cur
 cases hH:S.H.get id with
 | none=>simp
 | some b=>cases b <;> simp
def without (S:St) (ids:List Nat):St:=ids.foldl (fun S id=>{ S with H:=S.H.del id,T:=S.T.del id }) S
theorem oO:∀ (ids:List Nat) (S:St),(without S ids).nx=S.nx
 | [],S=>rfl
 | id :: l,S=>oO l { S with H:=S.H.del id,T:=S.T.del id }
theorem kI:∀ (ids:List Nat) (S:St) (k:Nat),(without S ids).H.get k=if k ∈ ids then none else S.H.get k
 | [],S,k=>by simp [without]
 | id :: l,S,k=>by
  show (without { S with H:=S.H.del id,T:=S.T.del id } l).H.get k=_
  rw [kI l]
  simp only [AL.wu]
  by_cases h1:k ∈ l
  ·
   simp [h1]
  ·
   by_cases h2:id=k
   ·
    subst h2; simp
   ·
    simp [h1,h2,Ne.symm h2]
theorem kG:∀ (ids:List Nat) (S:St) (k:Nat),(without S ids).T.get k=if k ∈ ids then none else S.T.get k
 | [],S,k=>by simp [without]
 | id :: l,S,k=>by
  show (without { S with H:=S.H.del id,T:=S.T.del id } l).T.get k=_
  rw [kG l]
  simp only [AL.wu]
  by_cases h1:k ∈ l
  ·
   simp [h1]
  ·
   by_cases h2:id=k
   ·
    subst h2; simp
   ·
    simp [h1,h2,Ne.symm h2]
theorem bA.there {S:St} {a:bA} (h:a.ok S):∀ id ∈ a.fp,S.H.get id ≠ none∨S.T.get id ≠ none:=fun id hid=>by
 cases a with
 | box i cs=>simp only [bA.fp,List.mem_singleton] at hid; subst hid; left; rw [show S.H.get id=_ from h]; simp
 | obj i k x=>simp only [bA.fp,List.mem_singleton] at hid; subst hid; left; rw [show S.H.get id=_ from h]; simp
 | map i m=>simp only [bA.fp,List.mem_singleton] at hid; subst hid; left; rw [show S.H.get id=_ from h]; simp
 | grow v xs =>
  cases v <;> simp only [bA.fp,List.not_mem_nil,List.mem_singleton] at hid
  subst hid
  right; rw [h.2.2.1]; simp
 | row sz v xs =>
  cases v <;> simp only [bA.fp,List.not_mem_nil,List.mem_singleton] at hid
  subst hid
  obtain ⟨cs,_,h8⟩:=h.2.2.2.2.2.2
  left; rw [h8]; simp
 | abs ids p=>obtain ⟨b,hb⟩:=h.1 id hid; left; rw [hb]; simp
theorem Has.frame {S:St} {l1 l2:List bA} (H:Has B S (l1 ++ l2)):∃ B',Has B' S l1∧∀ S' l1',Has B' S' l1'→(∀ id b,S'.H.get id=some b→S'.T.get id=none)→Has B S' (l1' ++ l2):=by
 let ids:=(l1.map bA.fp).flatten
 let B':=without S ids
 have hmem:∀ a ∈ l1,∀ id ∈ a.fp,id ∈ ids:=fun a ha id hid=>List.mem_flatten.2 ⟨_,List.mem_map.2 ⟨a,ha,rfl⟩,hid⟩
 have hnd:=H.nd
 rw [List.map_append,List.flatten_append,List.nodup_append] at hnd
 have hnot:∀ a ∈ l2,∀ id ∈ a.fp,id ∉ ids:=fun a ha id hid hq =>
  hnd.2.2 id hq id (List.mem_flatten.2 ⟨_,List.mem_map.2 ⟨a,ha,rfl⟩,hid⟩) rfl
 have hBids:∀ id ∈ ids,B.H.get id=none∧B.T.get id=none:=fun id hid=>by
  obtain ⟨gN,h1,h2⟩:=List.mem_flatten.1 hid
  obtain ⟨a,ha,rfl⟩:=List.mem_map.1 h1
  exact H.out a (List.mem_append_left _ ha) id h2
 have hwf:B'.Wf:=fun id hl=>by
  show id < B'.nx
  rw [oO]
  refine H.wf id (kR.2 ?_)
  rcases kR.1 hl with h | h
  ·
   rw [kI] at h
   split at h
   ·
    exact absurd rfl h
   ·
    exact .inl h
  ·
   rw [kG] at h
   split at h
   ·
    exact absurd rfl h
   ·
    exact .inr h
 refine ⟨B',⟨H.wf,fun a ha=>H.ok a (List.mem_append_left _ ha),hnd.1,hwf,⟨by rw [oO]; exact Nat.le_refl _,fun id b hb=>?_,fun id n hn=>?_⟩,fun a ha id hid=>?_⟩,fun S' l1' K hdis=>?_⟩
 ·
  rw [kI] at hb
  split at hb
  ·
   cases hb
  ·
   exact hb
 ·
  rw [kG] at hn
  split at hn
  ·
   cases hn
  ·
   exact hn
 ·
  have:=hmem a ha id hid
  rw [kI,kG,if_pos this,if_pos this]; exact ⟨rfl,rfl⟩
 ·
  have keepH:∀ id b,id ∉ ids→S.H.get id=some b→S'.H.get id=some b:=fun id b hn hb=>K.keeps.H id b (by rw [kI,if_neg hn]; exact hb)
  have keepT:∀ id n,id ∉ ids→S.T.get id=some n→S'.T.get id=some n:=fun id b hn hb=>K.keeps.T id b (by rw [kG,if_neg hn]; exact hb)
  have hok2:∀ a ∈ l2,a.ok S':=fun a ha=>by
   have hok:=H.ok a (List.mem_append_right _ ha)
   have hn:=hnot a ha
   cases a with
   | box id cs=>exact keepH _ _ (hn _ (by simp [bA.fp])) hok
   | obj id k x=>exact keepH _ _ (hn _ (by simp [bA.fp])) hok
   | map id m=>exact keepH _ _ (hn _ (by simp [bA.fp])) hok
   | grow v xs =>
    cases v with
    | tsl ys tok =>
     obtain ⟨h1,h2,h3,h4⟩:=hok
     have h3':=keepT _ _ (hn tok (by simp [bA.fp])) h3
     refine ⟨h1,h2,h3',?_⟩
     cases hb:S'.H.get tok with
     | none=>rfl
     | some b=>have:=hdis _ _ hb; rw [h3'] at this; cases this
    | d x=>cases x with
     | sl ys t=>cases t <;> exact hok
     | _=>exact hok
    | _=>exact hok
   | row sz v xs =>
    cases v with
    | dC id g off len lim sz' =>
     obtain ⟨h1,h2,h3,h4,h5,h6,cs,h7,h8⟩:=hok
     exact ⟨h1,h2,h3,h4,h5,h6,cs,h7,keepH _ _ (hn id (by simp [bA.fp])) h8⟩
    | d x=>cases x with
     | sl ys t=>cases ys <;> cases t <;> exact hok
     | _=>exact hok
    | _=>exact hok
   | abs ids' p=>exact bA.JW hok (fun id b hid hb=>keepH _ _ (hn id hid) hb)
  refine ⟨K.wf,fun a ha=>?_,?_,H.bwf,⟨?_,fun id b hb=>?_,fun id n hn=>?_⟩,fun a ha id hid=>?_⟩
  ·
   rcases List.mem_append.1 ha with ha | ha
   ·
    exact K.ok a ha
   ·
    exact hok2 a ha
  ·
   rw [List.map_append,List.flatten_append,List.nodup_append]
   refine ⟨K.nd,hnd.2.1,fun a ha b hb hab=>?_⟩
   subst hab
   obtain ⟨gN,h1,h2⟩:=List.mem_flatten.1 ha
   obtain ⟨x,hx,rfl⟩:=List.mem_map.1 h1
   obtain ⟨gN,h3,h4⟩:=List.mem_flatten.1 hb
   obtain ⟨y,hy,rfl⟩:=List.mem_map.1 h3
   obtain ⟨o1,o2⟩:=K.out x hx a h2
   have hn:=hnot y hy a h4
   rw [kI,if_neg hn] at o1
   rw [kG,if_neg hn] at o2
   rcases bA.there (H.ok y (List.mem_append_right _ hy)) a h4 with q | q
   ·
    exact q o1
   ·
    exact q o2
  ·
   have:=K.keeps.nx
   rw [oO] at this
   exact Nat.le_trans H.keeps.nx this
  ·
   exact keepH id b (fun q=>by rw [(hBids id q).1] at hb; cases hb) (H.keeps.H id b hb)
  ·
   exact keepT id n (fun q=>by rw [(hBids id q).2] at hn; cases hn) (H.keeps.T id n hn)
  ·
   rcases List.mem_append.1 ha with ha | ha
   ·
    obtain ⟨o1,o2⟩:=K.out a ha id hid
    by_cases hq:id ∈ ids
    ·
     exact hBids id hq
    ·
     rw [kI,if_neg hq] at o1
     rw [kG,if_neg hq] at o2
     refine ⟨?_,?_⟩
     ·
      cases hb:B.H.get id with
      | none=>rfl
      | some b=>have:=H.keeps.H _ _ hb; rw [o1] at this; cases this
     ·
      cases hb:B.T.get id with
      | none=>rfl
      | some b=>have:=H.keeps.T _ _ hb; rw [o2] at this; cases this
   ·
    exact H.out a (List.mem_append_right _ ha) id hid
theorem CV.gy {cx:Cx} {S2 S:St} {w:World} {p:Option AV} {v:AV} {e:Ending} (k:jE S2 S) (h:CV cx S w p v e):CV cx S2 w p v e:=by
 cases p with
 | none=>obtain ⟨u,h1,h2⟩:=h; exact ⟨u,h1,h2.gy k⟩
 | some p=>obtain ⟨u,h1,h2⟩:=h; exact ⟨u,h1,h2.gy k⟩
theorem Ext.zF {cx cx':Cx} {S S' S2:St} {w w':World} (k:jE S2 S') (e:Ext cx S w cx' S' w'):Ext cx S w cx' S2 w' where
 size:=e.size
 os:=e.os
 tape:=e.tape
 output:=e.output
 nx:=by rw [k.nx]; exact e.nx
 prot:=e.prot
 other:=fun b hb hn=>e.other b hb (fun id hl hf=>by
  obtain ⟨h1,g,h2,h3⟩:=hn id hl hf
  exact ⟨h1,g,h2,k.isIt.1 h3⟩)
 own:=fun id b hl hf=>e.own id b (k.live.1 hl) hf
 back:=fun id g hid h=>e.back id g hid (k.isIt.1 h)
 keep:=fun id g b hid h0 h hf=>e.keep id g b hid h0 (k.isIt.1 h) hf
 curs:=fun id g hid hc=>e.curs id g hid (by rw [← k.cur]; exact hc)
theorem gZ.zF {f:Nat} {args:List AV} {S:St} {Q:Out→Prop} (h:gZ R P f args S (fun o=>∃ S2,jE S2 o.2.2∧Q (o.1,o.2.1,S2))):gZ R P f args S Q :=
 ⟨h.1,fun cx w us h1 h2 h3=>(h.2 cx w us h1 h2 h3).mono fun e w' ⟨r,⟨S2,k,q⟩,cx',m1,m2,m3⟩=>⟨_,q,cx',m1.gy k,m2.zF k,m3.gy k⟩⟩
def cK (R:bK) (P:Program) (f:Nat) (args:List AV) (ins:List bA) (res:AV→List bA→Prop):Prop :=
 ∀ B S,Has B S ins→gZ R P f args S (fun o=>o.1=none∧∃ v l,Less v o.2.1∧res v l∧Has B o.2.2 l)
section
variable {C:fB} {nt:Nat}
theorem cK.of_wp {f:Nat} {fn:Func} {c:Code} (hf:C.P.funcs[f]? = some fn) (hc:fn.body=some c) (hn:(fn.name == "runtime.NumGoroutine")=false) {args:List AV} (hle:Nat.ble args.length fn.ntmps=true) {ins:List bA} {res:AV→List bA→Prop}
  (h:∀ B S,Has B S ins→aA R C.P fn.ntmps c (qH 0 args) S (Iy C fn (fun o=>o.1=none∧∃ v l S2,jE S2 o.2.2∧Less v o.2.1∧res v l∧Has B S2 l))):cK R C.P f args ins res:=fun B S hB=>by
 refine gZ.zF ((gZ.of_wp hf hc hn (Nat.le_of_ble_eq_true hle) (h B S hB)).mono fun o ho=>?_)
 obtain ⟨h1,v,l,S2,h2,h3,h4,h5⟩:=ho
 exact ⟨S2,h2,h1,v,l,h3,h4,h5⟩
section steps
variable {ops:Array Oper} {rest:List Oper} {e:Env} {S S':St} {Q:Stp→Prop} {l l':List bA} {t ty:Nat} {p:String} {af:Array Edge} {g:Option (Nat × Bool)} {x y:Operand} {v:AV}
theorem ai.eB {op:Op} {f:Nat} {args args':List AV} {ins more:List bA} {res:AV→List bA→Prop} (H:Has B S (ins ++ more)) (hw:bL ops e { dst:=some t,op:=op,type:=ty,pos:=p,after:=af,guard:=g }=some true) (ho:oper C (bI e) S op=some (.call f args)) (hs:cK R C.P f args' ins res) (ha:fG args' args) (ht:Nat.blt t nt=true)
  (k:∀ v S' l',res v l'→Has B S' (l' ++ more)→ai R C nt ops rest ((t,v) :: e) S' Q) :
  ai R C nt ops ({ dst:=some t,op:=op,type:=ty,pos:=p,after:=af,guard:=g } :: rest) e S Q:=by
 obtain ⟨B',h1,h2⟩:=H.frame
 refine ai.one hw (.inr (.inr (.inl ⟨f,args,ho,((hs B' S h1).IM ha).qZ.mono fun r hr=>?_⟩)))
 obtain ⟨p,w,S'⟩:=r
 obtain ⟨⟨q1,v,l',q2,q3,q4⟩,hd⟩:=hr
 simp only at q1 q2 q3 q4 hd
 subst q1
 exact ⟨_,by simp only [Env.put,ht,cond_true],ai.weak (ak.top q2) (k v S' l' q3 (h2 S' l' q4 hd))⟩
end steps
end
theorem bu {C:fB} {ρ:Operand→Option AV} {S:St} {x:Operand} {i g o:Nat} (hx:ρ x=some (.ptr i g o)):oper C ρ S (.nilCheck x)=some (.val (.ptr i g o) S):=by simp only [oper,hx]
theorem zZ {P:Program} {t z i g o:Nat} (h:P.underlying t=some (.pointer z)):jv P t .eql (.ptr i g o) (.d .nilp)=some (.bool false):=by simp [jv,AV.eqv,h]
theorem jP {P:Program} {t z:Nat} (h:P.underlying t=some (.pointer z)):jv P t .eql (.d .nilp) (.d .nilp)=some (.bool true):=by simp [jv,AV.eqv,jO,h]
def FX {α β:Type} (z:Option α) (a:Option β) (f:α→Option β):Option β:=match z with | none=>a | some x=>f x
theorem IQ {α β:Type} {a:Option β} {f:α→Option β} {r:β} (h:FX none a f=some r):a=some r:=h
theorem Jn {α β:Type} {x:α} {a:Option β} {f:α→Option β} {r:β} (h:FX (some x) a f=some r):f x=some r:=h
end
end Go.Ev

namespace Go.Ev
noncomputable section
set_option linter.unusedVariables false
set_option linter.unusedSimpArgs false
variable {R:bK} {P:Program} {B:St}
theorem wf_set {S:St} (h:S.Wf) {id:Nat} (hid:id < S.nx) (b:wo):St.Wf { S with H:=S.H.set id b }:=fun j hl=>by
 rcases kR.1 hl with q | q
 ·
  simp only [AL.aO] at q
  by_cases hj:id=j
  ·
   subst hj; exact hid
  ·
   rw [if_neg hj] at q; exact h j (kR.2 (.inl q))
 ·
  exact h j (kR.2 (.inr q))
theorem zV {S:St} (h:S.Wf) (b:wo):St.Wf (bN S b):=fun j hl=>by
 show j < S.nx + 1
 rcases kR.1 hl with q | q
 ·
  simp only [bN,AL.aO] at q
  by_cases hj:S.nx=j
  ·
   omega
  ·
   rw [if_neg hj] at q; have:=h j (kR.2 (.inl q)); omega
 ·
  have:=h j (kR.2 (.inr q)); omega
def gN (l:List bA):List Nat:=(l.map bA.fp).flatten
theorem oU (a b:List bA):gN (a ++ b)=gN a ++ gN b:=by simp [gN]
theorem iI {l:List bA} {id:Nat}:id ∈ gN l↔∃ a ∈ l,id ∈ a.fp:=by
 unfold gN
 constructor
 ·
  intro h; obtain ⟨q,h1,h2⟩:=List.mem_flatten.1 h; obtain ⟨a,h3,rfl⟩:=List.mem_map.1 h1; exact ⟨a,h3,h2⟩
 ·
  rintro ⟨a,h1,h2⟩; exact List.mem_flatten.2 ⟨_,List.mem_map.2 ⟨a,h1,rfl⟩,h2⟩
theorem Has.upd {S S':St} {l0 l bs:List bA} (H:Has B S (l0 ++ l)) (wf:S'.Wf) (nx:S.nx ≤ S'.nx)
  (same:∀ j,j ∉ gN l0→j < S.nx→S'.H.get j=S.H.get j∧S'.T.get j=S.T.get j)
  (ok:∀ x ∈ bs,x.ok S') (nd:(gN bs).Nodup) (ids:∀ id ∈ gN bs,id ∈ gN l0∨S.nx ≤ id):Has B S' (bs ++ l):=by
 have hnd:(gN (l0 ++ l)).Nodup:=H.nd
 rw [oU,List.nodup_append] at hnd
 have hlt:∀ a ∈ l,∀ id ∈ a.fp,id < S.nx:=fun a ha=>bA.lt H.wf (H.ok a (List.mem_append_right _ ha))
 have hout0:∀ id ∈ gN l0,B.H.get id=none∧B.T.get id=none:=fun id hid=>by
  obtain ⟨a,h1,h2⟩:=iI.1 hid
  exact H.out a (List.mem_append_left _ h1) id h2
 refine ⟨wf,fun a ha=>?_,?_,H.bwf,⟨Nat.le_trans H.keeps.nx nx,fun id b hb=>?_,fun id n hn=>?_⟩,fun a ha id hid=>?_⟩
 ·
  rcases List.mem_append.1 ha with ha | ha
  ·
   exact ok a ha
  ·
   have hn:∀ id ∈ a.fp,id ∉ gN l0:=fun id h1 h2=>hnd.2.2 id h2 id (iI.2 ⟨a,ha,h1⟩) rfl
   exact bA.keep (H.ok a (List.mem_append_right _ ha)) (fun id hid=>(same id (hn id hid) (hlt a ha id hid)).1) (fun id hid=>(same id (hn id hid) (hlt a ha id hid)).2)
 ·
  show (gN (bs ++ l)).Nodup
  rw [oU,List.nodup_append]
  refine ⟨nd,hnd.2.1,fun x hx y hy hxy=>?_⟩
  subst hxy
  rcases ids x hx with h | h
  ·
   exact hnd.2.2 x h x hy rfl
  ·
   obtain ⟨a,h1,h2⟩:=iI.1 hy
   have:=hlt a h1 x h2
   omega
 ·
  have h1:id ∉ gN l0:=fun q=>by rw [(hout0 id q).1] at hb; cases hb
  have h2:id < S.nx:=Nat.lt_of_lt_of_le (H.bwf.H hb) H.keeps.nx
  rw [(same id h1 h2).1]; exact H.keeps.H _ _ hb
 ·
  have h1:id ∉ gN l0:=fun q=>by rw [(hout0 id q).2] at hn; cases hn
  have h2:id < S.nx:=Nat.lt_of_lt_of_le (H.bwf id (rP hn)) H.keeps.nx
  rw [(same id h1 h2).2]; exact H.keeps.T _ _ hn
 ·
  rcases List.mem_append.1 ha with ha | ha
  ·
   rcases ids id (iI.2 ⟨a,ha,hid⟩) with h | h
   ·
    exact hout0 id h
   ·
    have hn:=H.keeps.nx
    refine ⟨?_,?_⟩
    ·
     cases hB:B.H.get id with
     | none=>rfl
     | some b=>have:=H.bwf.H hB; omega
    ·
     cases hB:B.T.get id with
     | none=>rfl
     | some b=>have:=H.bwf id (rP hB); omega
  ·
   exact H.out a (List.mem_append_right _ ha) id hid
theorem Has.o9 {S:St} {l0 l bs:List bA} (H:Has B S (l0 ++ l)) (ok:∀ x ∈ bs,x.ok S) (nd:(gN bs).Nodup) (ids:∀ id ∈ gN bs,id ∈ gN l0):Has B S (bs ++ l) :=
 H.upd H.wf (Nat.le_refl _) (fun _ _ _=>⟨rfl,rfl⟩) ok nd (fun id h=>.inl (ids id h))
theorem Has.nd0 {S:St} {l0 l:List bA} (H:Has B S (l0 ++ l)):(gN l0).Nodup:=by
 have hnd:(gN (l0 ++ l)).Nodup:=H.nd
 rw [oU,List.nodup_append] at hnd
 exact hnd.1
theorem Has.lt {S:St} {l:List bA} (H:Has B S l) {id:Nat} (h:id ∈ gN l):id < S.nx:=by
 obtain ⟨a,h1,h2⟩:=iI.1 h
 exact bA.lt H.wf (H.ok a h1) id h2
def aP:AV→List Nat
 | .dC id _ _ _ _ _=>[id]
 | _=>[]
def iA (n:Int):AV:=.d (.int .i64 n)
def ic (w:AV) (ys:List Int) (S:St):Prop:=match w with
 | .d .aT=>ys=[]
 | .dC id g off len lim sz=>off=0∧sz=1∧len=ys.length∧0 < lim∧∃ cs,S.H.get id=some (.cells g cs)∧cs.length=lim∧cs.take len=ys.map iA
 | _=>False
def aG (w:AV) (ys:List Int):bA:=.abs (aP w) (ic w ys)
theorem ic.keep {w:AV} {ys:List Int} {S S':St} (h:ic w ys S) (k:∀ id ∈ aP w,S'.H.get id=S.H.get id):ic w ys S':=by
 unfold ic at *
 split at h
 ·
  exact h
 ·
  obtain ⟨h1,h2,h3,h4,cs,h5,h6⟩:=h
  exact ⟨h1,h2,h3,h4,cs,by rw [k _ (by simp [aP])]; exact h5,h6⟩
 ·
  exact h.elim
theorem ic.live {w:AV} {ys:List Int} {S:St} (h:ic w ys S):∀ id ∈ aP w,∃ b,S.H.get id=some b:=by
 unfold ic at h
 split at h
 ·
  intro id hid; simp [aP] at hid
 ·
  obtain ⟨h1,h2,h3,h4,cs,h5,h6⟩:=h
  intro id hid
  simp only [aP,List.mem_singleton] at hid
  subst hid; exact ⟨_,h5⟩
 ·
  exact h.elim
theorem fE {w:AV} {ys:List Int} {S:St}:(aG w ys).ok S↔ic w ys S :=
 ⟨fun h=>h.2 S (fun _ _=>rfl),fun h=>⟨h.live,fun S' k=>h.keep k⟩⟩
theorem ic.plain {w:AV} {ys:List Int} {S:St} (h:ic w ys S):w.plain=true∧w.cells=[w]:=by
 unfold ic at h
 split at h
 ·
  exact ⟨rfl,rfl⟩
 ·
  exact ⟨rfl,rfl⟩
 ·
  exact h.elim
theorem qQ {S:St} {l:List bA} {i:Nat} {w:AV} {ys:List Int} (H:Has B S l) (hi:l[i]? = some (aG w ys)):w.plain=true∧w.cells=[w]:=(fE.1 (H.at hi)).plain
theorem zU {S:St}:ic (.d .aT) [] S:=rfl
def iX (k:Nat) (ws:List AV):AV:=ws.getD k .any
def kU (sz k:Nat) (x:D) (ws:List AV):Prop:=x.cells.length=sz∧jF x.cells=true∧ws.length=sz∧fG ((x.cells.map AV.d).set k .any) ws
def bG (k:Nat):Option Nat→List (List AV)→List Nat
 | _,[]=>[]
 | some 0,_ :: l=>bG k none l
 | some (n + 1),ws :: l=>aP (iX k ws) ++ bG k (some n) l
 | none,ws :: l=>aP (iX k ws) ++ bG k none l
theorem iF {k:Nat}:∀ {wss:List (List AV)} {h:Option Nat} {id:Nat},id ∈ bG k h wss↔∃ i ws,wss[i]? = some ws∧h ≠ some i∧id ∈ aP (iX k ws)
 | [],h,id=>by simp [bG]
 | w :: l,none,id=>by
  simp only [bG,List.mem_append,iF (wss:=l)]
  constructor
  ·
   rintro (q | ⟨i,ws,h1,h2,h3⟩)
   ·
    exact ⟨0,w,rfl,by simp,q⟩
   ·
    exact ⟨i + 1,ws,h1,by simp,h3⟩
  ·
   rintro ⟨i,ws,h1,h2,h3⟩
   cases i with
   | zero=>simp at h1; subst h1; exact .inl h3
   | succ i=>exact .inr ⟨i,ws,by simpa using h1,by simp,h3⟩
 | w :: l,some 0,id=>by
  simp only [bG,iF (wss:=l)]
  constructor
  ·
   rintro ⟨i,ws,h1,h2,h3⟩; exact ⟨i + 1,ws,h1,by simp,h3⟩
  ·
   rintro ⟨i,ws,h1,h2,h3⟩
   cases i with
   | zero=>simp at h2
   | succ i=>exact ⟨i,ws,by simpa using h1,by simp,h3⟩
 | w :: l,some (n + 1),id=>by
  simp only [bG,List.mem_append,iF (wss:=l)]
  constructor
  ·
   rintro (q | ⟨i,ws,h1,h2,h3⟩)
   ·
    exact ⟨0,w,rfl,by simp,q⟩
   ·
    exact ⟨i + 1,ws,h1,by simpa using h2,h3⟩
  ·
   rintro ⟨i,ws,h1,h2,h3⟩
   cases i with
   | zero=>simp at h1; subst h1; exact .inl h3
   | succ i=>exact .inr ⟨i,ws,by simpa using h1,by simpa using h2,h3⟩
theorem jM {k:Nat}:∀ {wss:List (List AV)} {n:Nat} {ws:List AV},wss[n]? = some ws→(bG k none wss).Perm (aP (iX k ws) ++ bG k (some n) wss)
 | [],n,ws,h=>by simp at h
 | w :: l,0,ws,h=>by simp at h; subst h; exact List.Perm.refl _
 | w :: l,n + 1,ws,h=>by
  simp only [bG]
  have ih:=jM (k:=k) (wss:=l) (n:=n) (ws:=ws) (by simpa using h)
  refine (List.Perm.append_left _ ih).trans ?_
  rw [← List.append_assoc,← List.append_assoc]
  exact List.Perm.append_right _ List.perm_append_comm
theorem rJ {k:Nat}:∀ {wss:List (List AV)} {n:Nat} {ws:List AV},bG k (some n) (wss.set n ws)=bG k (some n) wss
 | [],n,ws=>rfl
 | w :: l,0,ws=>rfl
 | w :: l,n + 1,ws=>by simp only [List.set_cons_succ,bG]; rw [rJ]
theorem rW {k:Nat} (ws:List AV):∀ (wss:List (List AV)),bG k none (wss ++ [ws])=bG k none wss ++ aP (iX k ws)
 | []=>by simp [bG]
 | w :: l=>by simp only [List.cons_append,bG]; rw [rW ws l]; simp
theorem mW {k:Nat}:∀ {wss:List (List AV)} {n:Nat} {ws ws':List AV},wss[n]? = some ws→iX k ws'=iX k ws→∀ h,bG k h (wss.set n ws')=bG k h wss
 | [],n,ws,ws',h,e,o=>by simp at h
 | w :: l,0,ws,ws',h,e,o=>by
  simp at h; subst h
  cases o with
  | none=>simp only [List.set_cons_zero,bG,e]
  | some o=>cases o with
   | zero=>rfl
   | succ o=>simp only [List.set_cons_zero,bG,e]
 | w :: l,n + 1,ws,ws',h,e,o=>by
  have h:l[n]? = some ws:=by simpa using h
  cases o with
  | none=>simp only [List.set_cons_succ,bG]; rw [mW h e]
  | some o=>cases o with
   | zero=>simp only [List.set_cons_succ,bG]; rw [mW h e]
   | succ o=>simp only [List.set_cons_succ,bG]; rw [mW h e]
section
variable {α:Type} (enc:α→D) (kid:α→List Int) (sz k:Nat)
def ky (v:AV) (wss:List (List AV)) (xs:List α) (hole:Option Nat) (S:St):Prop :=
 wss.length=xs.length∧k < sz∧(∀ i x ws,xs[i]? = some x→wss[i]? = some ws→kU sz k (enc x) ws∧(hole ≠ some i→ic (iX k ws) (kid x) S)) ∧
 match v with
 | .d .aT=>xs=[]
 | .dC id g off len lim sz'=>off=0∧len=xs.length∧lim=xs.length∧sz'=sz∧S.H.get id=some (.cells g wss.flatten)
 | _=>False
def ay (v:AV) (wss:List (List AV)) (xs:List α) (hole:Option Nat):bA:=.abs (aP v ++ bG k hole wss) (ky enc kid sz k v wss xs hole)
end
section
variable {α:Type} {enc:α→D} {kid:α→List Int} {sz k:Nat} {v:AV} {wss:List (List AV)} {xs:List α} {hole:Option Nat} {S S':St}
theorem ky.keep (h:ky enc kid sz k v wss xs hole S) (e:∀ id ∈ aP v ++ bG k hole wss,S'.H.get id=S.H.get id):ky enc kid sz k v wss xs hole S':=by
 obtain ⟨h1,h2,h3,h4⟩:=h
 refine ⟨h1,h2,fun i x ws hx hw=>⟨(h3 i x ws hx hw).1,fun hn=>((h3 i x ws hx hw).2 hn).keep (fun id hid=>e id (List.mem_append_right _ (iF.2 ⟨i,ws,hw,hn,hid⟩)))⟩,?_⟩
 split
 ·
  exact h4
 ·
  obtain ⟨q1,q2,q3,q4,q5⟩:=h4
  exact ⟨q1,q2,q3,q4,by rw [e _ (List.mem_append_left _ (by simp [aP]))]; exact q5⟩
 ·
  rename_i hx1 hx2
  revert h4
  split
  ·
   exact (hx1 rfl).elim
  ·
   exact (hx2 _ _ _ _ _ _ rfl).elim
  ·
   exact id
theorem ky.live (h:ky enc kid sz k v wss xs hole S):∀ id ∈ aP v ++ bG k hole wss,∃ b,S.H.get id=some b:=by
 obtain ⟨h1,h2,h3,h4⟩:=h
 intro id hid
 rcases List.mem_append.1 hid with hid | hid
 ·
  revert h4
  split
  ·
   simp [aP] at hid
  ·
   simp only [aP,List.mem_singleton] at hid
   subst hid
   exact fun q=>⟨_,q.2.2.2.2⟩
  ·
   exact fun q=>q.elim
 ·
  obtain ⟨i,ws,hw,hn,hq⟩:=iF.1 hid
  have hi:i < xs.length:=by rw [← h1]; exact (List.getElem?_eq_some_iff.1 hw).1
  exact ((h3 i _ ws (List.getElem?_eq_getElem hi) hw).2 hn).live id hq
theorem eZ:(ay enc kid sz k v wss xs hole).ok S↔ky enc kid sz k v wss xs hole S :=
 ⟨fun h=>h.2 S (fun _ _=>rfl),fun h=>⟨h.live,fun S' e=>h.keep e⟩⟩
theorem ky.node (h:ky enc kid sz k v wss xs hole S) {n:Nat} {x:α} (hx:xs[n]? = some x):∃ ws,wss[n]? = some ws∧kU sz k (enc x) ws∧(hole ≠ some n→ic (iX k ws) (kid x) S)∧∃ id g,v=.dC id g 0 xs.length xs.length sz∧S.H.get id=some (.cells g wss.flatten):=by
 obtain ⟨h1,h2,h3,h4⟩:=h
 have hn:n < wss.length:=by rw [h1]; exact (List.getElem?_eq_some_iff.1 hx).1
 have hw:=List.getElem?_eq_getElem hn
 obtain ⟨q1,q2⟩:=h3 n x _ hx hw
 refine ⟨_,hw,q1,q2,?_⟩
 revert h4
 split
 ·
  intro q; subst q; simp at hx
 ·
  rintro ⟨rfl,rfl,rfl,rfl,q⟩; exact ⟨_,_,rfl,q⟩
 ·
  exact fun q=>q.elim
def gU (k:Nat) (wss:List (List AV)) (n:Nat):AV:=iX k (wss.getD n [])
theorem wy {n:Nat} {ws:List AV} (h:wss[n]? = some ws):gU k wss n=iX k ws:=by
 unfold gU; rw [List.getD_eq_getElem?_getD,h]; rfl
theorem Has.take {l:List bA} (H:Has B S (ay enc kid sz k v wss xs none :: l)) {n:Nat} {x:α} (hx:xs[n]? = some x):Has B S (aG (gU k wss n) (kid x) :: ay enc kid sz k v wss xs (some n) :: l):=by
 have hp:=eZ.1 (H.ok _ List.mem_cons_self)
 obtain ⟨ws,hw,hq1,hq2,_⟩:=hp.node hx
 have hs:=hq2 (by simp)
 rw [wy hw]
 have hnd:(gN [ay enc kid sz k v wss xs none]).Nodup:=Has.nd0 (l0:=[_]) H
 have hnd:(aP v ++ bG k none wss).Nodup:=by simpa [gN,ay,bA.fp] using hnd
 have hperm:(aP (iX k ws) ++ (aP v ++ bG k (some n) wss)).Perm (aP v ++ bG k none wss):=by
  refine List.Perm.trans ?_ (List.Perm.append_left _ (jM hw).symm)
  rw [← List.append_assoc,← List.append_assoc]
  exact List.Perm.append_right _ List.perm_append_comm
 refine Has.o9 (l0:=[_]) (bs:=[_,_]) H (fun a ha=>?_) ?_ (fun id hid=>?_)
 ·
  simp only [List.mem_cons,List.not_mem_nil,or_false] at ha
  rcases ha with rfl | rfl
  ·
   exact fE.2 hs
  ·
   refine eZ.2 ⟨hp.1,hp.2.1,fun i x ws h1 h2=>⟨(hp.2.2.1 i x ws h1 h2).1,fun _=>(hp.2.2.1 i x ws h1 h2).2 (by simp)⟩,hp.2.2.2⟩
 ·
  have:gN [aG (iX k ws) (kid x),ay enc kid sz k v wss xs (some n)]=aP (iX k ws) ++ (aP v ++ bG k (some n) wss):=by simp [gN,aG,ay,bA.fp]
  rw [this]; exact hperm.nodup_iff.2 hnd
 ·
  have e:gN [aG (iX k ws) (kid x),ay enc kid sz k v wss xs (some n)]=aP (iX k ws) ++ (aP v ++ bG k (some n) wss):=by simp [gN,aG,ay,bA.fp]
  rw [e] at hid
  have:=hperm.mem_iff.1 hid
  simpa [gN,ay,bA.fp] using this
theorem Has.Ij {l:List bA} {n:Nat} {x:α} (H:Has B S (aG (gU k wss n) (kid x) :: ay enc kid sz k v wss xs (some n) :: l)) (hx:xs[n]? = some x):Has B S (ay enc kid sz k v wss xs none :: l):=by
 have hp:=eZ.1 (H.ok (ay enc kid sz k v wss xs (some n)) (by simp))
 have hs:=fE.1 (H.ok (aG (gU k wss n) (kid x)) (by simp))
 obtain ⟨ws,hw,hq1,_,_⟩:=hp.node hx
 rw [wy hw] at hs H
 have hnd:(gN [aG (iX k ws) (kid x),ay enc kid sz k v wss xs (some n)]).Nodup:=Has.nd0 (l0:=[_,_]) H
 have e:gN [aG (iX k ws) (kid x),ay enc kid sz k v wss xs (some n)]=aP (iX k ws) ++ (aP v ++ bG k (some n) wss):=by simp [gN,aG,ay,bA.fp]
 have e2:gN [ay enc kid sz k v wss xs none]=aP v ++ bG k none wss:=by simp [gN,ay,bA.fp]
 have hperm:(aP (iX k ws) ++ (aP v ++ bG k (some n) wss)).Perm (aP v ++ bG k none wss):=by
  refine List.Perm.trans ?_ (List.Perm.append_left _ (jM hw).symm)
  rw [← List.append_assoc,← List.append_assoc]
  exact List.Perm.append_right _ List.perm_append_comm
 refine Has.o9 (l0:=[_,_]) (bs:=[_]) H (fun a ha=>?_) ?_ (fun id hid=>?_)
 ·
  simp only [List.mem_cons,List.not_mem_nil,or_false] at ha
  subst ha
  refine eZ.2 ⟨hp.1,hp.2.1,fun i y ws' h1 h2=>⟨(hp.2.2.1 i y ws' h1 h2).1,fun _=>?_⟩,hp.2.2.2⟩
  by_cases hi:n=i
  ·
   subst hi
   rw [h2] at hw; cases hw
   rw [h1] at hx; cases hx
   exact hs
  ·
   exact (hp.2.2.1 i y ws' h1 h2).2 (fun q=>hi (Option.some.inj q))
 ·
  rw [e2]; rw [e] at hnd; exact hperm.nodup_iff.1 hnd
 ·
  rw [e2] at hid; rw [e]; exact hperm.mem_iff.2 hid
end
end
end Go.Ev

namespace Go.Ev
noncomputable section
set_option linter.unusedVariables false
set_option linter.unusedSimpArgs false
variable {R:bK} {P:Program} {B:St}
theorem DR {sz:Nat}:∀ {wss:List (List AV)},(∀ ws ∈ wss,ws.length=sz)→∀ {n:Nat} {ws:List AV},wss[n]? = some ws→∃ a b,wss.flatten=a ++ ws ++ b∧a.length=n * sz∧∀ ws',(wss.set n ws').flatten=a ++ ws' ++ b:=by
 intro wss
 induction wss with
 | nil=>intro _ n ws h; simp at h
 | cons y l ih =>
  intro hs n ws h
  cases n with
  | zero =>
   simp at h; subst h
   exact ⟨[],l.flatten,by simp,by simp,fun d'=>by simp⟩
  | succ n =>
   obtain ⟨a,b,h1,h2,h3⟩:=ih (fun x hx=>hs x (List.mem_cons_of_mem _ hx)) (n:=n) (by simpa using h)
   refine ⟨y ++ a,b,by rw [List.flatten_cons,h1]; simp,?_,fun d'=>by rw [List.set_cons_succ,List.flatten_cons,h3]; simp⟩
   rw [List.length_append,h2,hs y List.mem_cons_self,Nat.add_mul,Nat.one_mul]; omega
theorem yY {k:Nat} {x:AV} (hx:∀ d,x ≠ .d d):∀ {l:List AV},l[k]? = some x→pK l=none:=by
 intro l
 induction l generalizing k with
 | nil=>intro h; simp at h
 | cons y l ih =>
  intro h
  cases k with
  | zero =>
   simp at h; subst h
   cases y with
   | d d=>exact (hx d rfl).elim
   | _=>rfl
  | succ k =>
   have:=ih (k:=k) (by simpa using h)
   cases y <;> simp [pK,this]
theorem xg {l:List AV} (h:pK l=none):Ev.eY l=.agg l:=by unfold Ev.eY; rw [h]
theorem Gh (l:List D):Ev.eY (l.map AV.d)=.d (.agg l):=by
 unfold Ev.eY
 have:pK (l.map AV.d)=some l:=by
  induction l with
  | nil=>rfl
  | cons x l ih=>simp [pK,ih]
 rw [this]
def I5 (x:AV):Prop:=x=.d .aT∨∃ id g off len lim sz,x=.dC id g off len lim sz
theorem ic.kw {w:AV} {ys:List Int} {S:St} (h:ic w ys S):I5 w:=by
 unfold ic at h
 split at h
 ·
  exact .inl rfl
 ·
  exact .inr ⟨_,_,_,_,_,_,rfl⟩
 ·
  exact h.elim
theorem Less.Hr {ds:List D} {ws:List AV} {k:Nat} {kw:AV} (h:fG ((ds.map AV.d).set k kw) ws) (hk:ws[k]? = some kw) (hf:jF ds=true) (hw:I5 kw):Less (Ev.eY ((ds.map AV.d).set k kw)) (Ev.eY ws):=by
 rcases hw with rfl | ⟨id,g,off,len,lim,sz,rfl⟩
 ·
  have e:(ds.map AV.d).set k (.d .aT)=(ds.set k .aT).map AV.d:=by rw [List.map_set]
  rw [e] at h ⊢
  have hf':jF (ds.set k .aT)=true:=xQ (fun d hd=>by
   rcases List.mem_or_eq_of_mem_set hd with hd | rfl
   ·
    exact uL hf d hd
   ·
    rfl)
  rw [Gh]
  exact Less.Ic h hf'
 ·
  have hl:=h.len
  have hlt:k < ws.length:=(List.getElem?_eq_some_iff.1 hk).1
  have hk2:((ds.map AV.d).set k (.dC id g off len lim sz))[k]? = some (.dC id g off len lim sz):=by
   rw [List.getElem?_set_self (by rw [← List.length_set,hl]; exact hlt)]
  rw [xg (yY (fun d=>by simp) hk),xg (yY (fun d=>by simp) hk2)]
  intro cx S w v hr
  cases hr with
  | agg _ vs hvl ho hh =>
   refine .agg _ vs (by rw [hvl,hl]) ho (fun i x u hx hu=>?_)
   have hi:i < ws.length:=by rw [← hvl]; exact (List.getElem?_eq_some_iff.1 hu).1
   have hy:=List.getElem?_eq_getElem hi
   exact h.get hx hy _ _ _ _ (hh i _ u hy hu)
theorem fG.J5 {ds:List AV} {ws:List AV} {k:Nat} {a kw:AV} (h:fG (ds.set k a) ws) (hk:ws[k]? = some kw):fG (ds.set k kw) ws:=by
 have:=h.set (Less.refl kw) k
 rw [List.set_set] at this
 have e:ws.set k kw=ws:=by
  obtain ⟨hlt,h2⟩:=List.getElem?_eq_some_iff.1 hk
  rw [← h2]; exact List.set_getElem_self hlt
 rwa [e] at this
theorem BF {k:Nat} {ws:List AV} (h:k < ws.length):ws[k]? = some (iX k ws):=by
 unfold iX
 rw [List.getD_eq_getElem?_getD,List.getElem?_eq_getElem h]; rfl
section
variable {α:Type} {enc:α→D} {kid:α→List Int} {sz k:Nat} {v:AV} {wss:List (List AV)} {xs:List α} {hole:Option Nat} {S S':St}
theorem ky.lens (h:ky enc kid sz k v wss xs hole S):∀ ws ∈ wss,ws.length=sz:=fun ws hws=>by
 obtain ⟨i,hi,rfl⟩:=List.getElem_of_mem hws
 have:i < xs.length:=by rw [← h.1]; exact hi
 exact (h.2.2.1 i _ _ (List.getElem?_eq_getElem this) (List.getElem?_eq_getElem hi)).1.2.2.1
section
variable {C:fB} {ρ:Operand→Option AV} {l:List bA} {x y:Operand} {t:Nat} {n:Int} {z:α}
theorem CB (h:ky enc kid sz k v wss xs hole S):mP v S'=some xs.length:=by
 obtain ⟨h1,h2,h3,h4⟩:=h
 revert h4
 split
 ·
  intro q; subst q; rfl
 ·
  rintro ⟨rfl,rfl,rfl,rfl,q⟩; rfl
 ·
  exact fun q=>q.elim
theorem Ca (h:ky enc kid sz k v wss xs hole S) (ht:(bf C.P t).isSome=true):nC C t v=true:=by
 have hu:∃ e,C.P.underlying t=some (.slice e):=by
  unfold bf at ht
  split at ht
  ·
   rename_i hu; exact ⟨_,hu⟩
  ·
   cases ht
 obtain ⟨e,hu⟩:=hu
 obtain ⟨h1,h2,h3,h4⟩:=h
 revert h4
 split
 ·
  intro q; simp [nC,hu]
 ·
  rintro _; simp [nC,hu]
 ·
  exact fun q=>q.elim
theorem qX (H:Has B S l) {i:Nat} (hi:l[i]? = some (ay enc kid sz k v wss xs hole)) (h:ρ x=some v) (ht:(bf C.P t).isSome=true):oper C ρ S (.call { callee:=.builtin .len,args:=#[x],argTypes:=#[t] })=some (.val (.d (.int .i64 (xs.length:Int))) S):=by
 have hp:=eZ.1 (H.at hi)
 exact mI h (Ca hp ht) (by rw [CB hp])
theorem jh {w:AV} {ys:List Int} (H:Has B S l) {i:Nat} (hi:l[i]? = some (aG w ys)) (h:ρ x=some w) (ht:(bf C.P t).isSome=true):oper C ρ S (.call { callee:=.builtin .len,args:=#[x],argTypes:=#[t] })=some (.val (.d (.int .i64 (ys.length:Int))) S):=by
 have hp:=fE.1 (H.at hi)
 have hu:∃ e,C.P.underlying t=some (.slice e):=by
  unfold bf at ht
  split at ht
  ·
   rename_i hu; exact ⟨_,hu⟩
  ·
   cases ht
 obtain ⟨e,hu⟩:=hu
 unfold ic at hp
 split at hp
 ·
  subst hp; exact mI h (by simp [nC,hu]) rfl
 ·
  obtain ⟨_,_,h3,_⟩:=hp; subst h3; exact mI h (by simp [nC,hu]) (by simp [mP])
 ·
  exact hp.elim
theorem ky.ptr (h:ky enc kid sz k v wss xs hole S) (hz:idx xs n=some z) (off:Nat):∃ id g ws a b,wss[n.toNat]? = some ws∧kU sz k (enc z) ws∧v=.dC id g 0 xs.length xs.length sz∧bq v n.toNat off=.ptr id g (n.toNat * sz + off)∧S.H.get id=some (.cells g wss.flatten) ∧
  wss.flatten=a ++ ws ++ b∧a.length=n.toNat * sz∧(∀ ws',(wss.set n.toNat ws').flatten=a ++ ws' ++ b)∧n.toNat < xs.length:=by
 obtain ⟨ws,h1,h2,h3,id,g,rfl,h5⟩:=h.node (dB hz).2
 obtain ⟨a,b,q1,q2,q3⟩:=DR h.lens h1
 exact ⟨id,g,ws,a,b,h1,h2,rfl,rfl,h5,q1,q2,q3,(List.getElem?_eq_some_iff.1 (dB hz).2).1⟩
theorem fI (H:Has B S l) {i:Nat} (hi:l[i]? = some (ay enc kid sz k v wss xs hole)) {kk:IntKind} {el:Nat} (hz:idx xs n=some z) (hx:ρ x=some v) (hy:ρ y=some (.d (.int kk n)))
  (he:bf C.P t=some el) (ha:(dQ C.P el).isSome=true) (hs:aJ C.P el=sz):oper C ρ S (.indexAddr t x y)=some (.val (bq v n.toNat 0) S):=by
 obtain ⟨id,g,ws,a,b,h1,h2,rfl,h4,h5,h6,h7,h8,h9⟩:=(eZ.1 (H.at hi)).ptr hz 0
 rw [h4]
 refine bD hx hy ?_
 simp only [gP,he,(dB hz).1,ha,decide_true,Bool.and_self,if_true]
 rw [if_pos ⟨h9,hs.symm⟩,hs]
 simp
theorem aZ (H:Has B S l) {i:Nat} (hi:l[i]? = some (ay enc kid sz k v wss xs hole)) {s fld fo ft o' off:Nat} (hz:idx xs n=some z) (h:ρ x=some (bq v n.toNat off)) (hf:fA C.P s fld=some (fo,ft)) (hb:Nat.beq (aJ C.P ft) 0=false) (ho:off + fo=o') :
  oper C ρ S (.fieldAddr s x fld)=some (.val (bq v n.toNat o') S):=by
 obtain ⟨id,g,ws,a,b,h1,h2,rfl,h4,h5,h6,h7,h8,h9⟩:=(eZ.1 (H.at hi)).ptr hz off
 rw [h4] at h
 rw [aC h hf hb rfl]
 subst ho
 simp [bq,Nat.add_assoc]
theorem ql (H:Has B S l) {i:Nat} (hi:l[i]? = some (ay enc kid sz k v wss xs hole)) {off:Nat} (hz:idx xs n=some z) (h:ρ x=some (bq v n.toNat off)) (ha:dQ C.P t=some false) (ho:Nat.blt off sz=true) :
  ∃ ws,wss[n.toNat]? = some ws∧kU sz k (enc z) ws∧oper C ρ S (.load t x)=some (.val (ws.getD off .any) S):=by
 obtain ⟨id,g,ws,a,b,h1,h2,rfl,h4,h5,h6,h7,h8,h9⟩:=(eZ.1 (H.at hi)).ptr hz off
 rw [h4] at h
 refine ⟨ws,h1,h2,?_⟩
 have ho:off < sz:=by have:=Nat.le_of_ble_eq_true ho; omega
 have hl:off < ws.length:=by rw [h2.2.2.1]; exact ho
 have:part C.P t wss.flatten (n.toNat * sz + off)=some (ws.getD off .any):=by
  unfold part
  rw [ha]
  simp only
  rw [h6,List.append_assoc,List.getElem?_append_right (by omega),h7,show n.toNat * sz + off - n.toNat * sz=off by omega,List.getElem?_append_left hl,List.getD_eq_getElem?_getD,List.getElem?_eq_getElem hl]; rfl
 simp only [oper,h,kF,St.look,h5,Nat.beq_refl,cond_true,this,Option.map_some]
theorem xm (H:Has B S l) {i:Nat} (hi:l[i]? = some (ay enc kid sz k v wss xs hole)) {off:Nat} {d:D} (hz:idx xs n=some z) (h:ρ x=some (bq v n.toNat off)) (ha:dQ C.P t=some false) (hk:Nat.beq k off=false) (hd:(enc z).cells[off]? = some d) :
  ∃ w,oper C ρ S (.load t x)=some (.val w S)∧Less (.d d) w:=by
 have hn:=eZ.1 (H.at hi)
 obtain ⟨ws0,g1,g2,_⟩:=hn.node (dB hz).2
 have ho:off < sz:=by rw [← g2.1]; exact (List.getElem?_eq_some_iff.1 hd).1
 obtain ⟨ws,h1,h2,h3⟩:=ql (C:=C) (ρ:=ρ) H hi (off:=off) hz h ha (by simp [Nat.blt]; omega)
 refine ⟨_,h3,?_⟩
 have hl:off < ws.length:=by rw [h2.2.2.1]; exact ho
 have hne:k ≠ off:=fun q=>by subst q; simp at hk
 have e1:(((enc z).cells.map AV.d).set k .any)[off]? = some (.d d):=by
  rw [List.getElem?_set_ne hne,List.getElem?_map,hd]; rfl
 have e2:ws[off]? = some (ws.getD off .any):=by rw [List.getD_eq_getElem?_getD,List.getElem?_eq_getElem hl]; rfl
 exact h2.2.2.2.get e1 e2
theorem fP (H:Has B S l) {i:Nat} (hi:l[i]? = some (ay enc kid sz k v wss xs hole)) (hz:idx xs n=some z) (h:ρ x=some (bq v n.toNat k)) (ha:dQ C.P t=some false) :
  oper C ρ S (.load t x)=some (.val (gU k wss n.toNat) S):=by
 have hn:=eZ.1 (H.at hi)
 obtain ⟨ws,h1,h2,h3⟩:=ql (C:=C) (ρ:=ρ) H hi (off:=k) hz h ha (by have:=hn.2.1; simp [Nat.blt]; omega)
 rw [h3,wy h1]; rfl
theorem wG (H:Has B S l) {i:Nat} (hi:l[i]? = some (ay enc kid sz k v wss xs none)) (hz:idx xs n=some z) (h:ρ x=some (bq v n.toNat 0)) (ha:dQ C.P t=some true) (hs:aJ C.P t=sz) :
  ∃ w,oper C ρ S (.load t x)=some (.val w S)∧Less (Ev.eY (((enc z).cells.map AV.d).set k (gU k wss n.toNat))) w:=by
 have hn:=eZ.1 (H.at hi)
 obtain ⟨id,g,ws,a,b,h1,h2,rfl,h4,h5,h6,h7,h8,h9⟩:=hn.ptr hz 0
 obtain ⟨_,w1,_,w3,_⟩:=hn.node (dB hz).2
 rw [h1] at w1; cases w1
 rw [h4] at h
 have hk:k < ws.length:=by rw [h2.2.2.1]; exact hn.2.1
 refine ⟨Ev.eY ws,?_,?_⟩
 ·
  have:part C.P t wss.flatten (n.toNat * sz + 0)=some (Ev.eY ws):=by
   unfold part
   rw [ha]
   simp only
   have e:(wss.flatten.drop (n.toNat * sz + 0)).take (aJ C.P t)=ws:=by
    rw [h6,hs,Nat.add_zero,← h7,List.append_assoc,List.drop_left,← h2.2.2.1,List.take_left]
   rw [e,if_pos (by rw [h6,hs]; simp only [List.length_append]; have:=h2.2.2.1; omega)]
  simp only [oper,h,kF,St.look,h5,Nat.beq_refl,cond_true,this,Option.map_some]
 ·
  rw [wy h1]
  exact Less.Hr (h2.2.2.2.J5 (BF hk)) (BF hk) h2.2.1 (w3 (by simp)).kw
end
end
end
end Go.Ev

namespace Go.Ev
noncomputable section
set_option linter.unusedVariables false
set_option linter.unusedSimpArgs false
variable {R:bK} {P:Program} {B:St}
section
variable {α:Type} {enc:α→D} {kid:α→List Int} {sz k:Nat} {v:AV} {wss:List (List AV)} {xs:List α} {hole:Option Nat} {S S':St}
theorem ky.set {id g:Nat} {n:Nat} {ws ws':List AV} {z z':α} (h:ky enc kid sz k (.dC id g 0 xs.length xs.length sz) wss xs hole S) (hw:wss[n]? = some ws) (hx:xs[n]? = some z) (hnode:kU sz k (enc z') ws') {hole':Option Nat}
  (hh:∀ m,m ≠ n→(hole'=some m↔hole=some m)) (hk:hole' ≠ some n→ic (iX k ws') (kid z') S) (hid:id ∉ bG k hole' (wss.set n ws')) :
  ky enc kid sz k (.dC id g 0 xs.length xs.length sz) (wss.set n ws') (xs.set n z') hole' { S with H:=S.H.set id (.cells g (wss.set n ws').flatten) }:=by
 obtain ⟨h1,h2,h3,h4⟩:=h
 have hn:n < wss.length:=(List.getElem?_eq_some_iff.1 hw).1
 refine ⟨by simp [h1],h2,fun i x u hx' hu=>?_,rfl,by simp,by simp,rfl,by simp only [AL.aO,if_true]⟩
 have hkeep:∀ {w:AV} {ys:List Int},ic w ys S→(∀ j ∈ aP w,j ≠ id)→ic w ys { S with H:=S.H.set id (.cells g (wss.set n ws').flatten) }:=fun q hq=>q.keep (fun j hj=>by simp only [AL.aO]; rw [if_neg (fun e=>hq j hj e.symm)])
 by_cases hi:n=i
 ·
  subst hi
  rw [List.getElem?_set_self (by rw [← h1]; exact hn)] at hx'
  rw [List.getElem?_set_self hn] at hu
  cases hx'; cases hu
  refine ⟨hnode,fun q=>hkeep (hk q) (fun j hj e=>?_)⟩
  subst e
  exact hid (iF.2 ⟨n,ws',by rw [List.getElem?_set_self hn],q,hj⟩)
 ·
  rw [List.getElem?_set_ne hi] at hx' hu
  obtain ⟨q1,q2⟩:=h3 i x u hx' hu
  refine ⟨q1,fun q=>hkeep (q2 (fun e=>q ((hh i (Ne.symm hi)).2 e))) (fun j hj e=>?_)⟩
  subst e
  exact hid (iF.2 ⟨i,u,by rw [List.getElem?_set_ne hi]; exact hu,q,hj⟩)
section
variable {l:List bA} {n:Nat} {z z':α} {ws ws':List AV} {id g:Nat}
theorem kK:gN [ay enc kid sz k v wss xs hole]=aP v ++ bG k hole wss:=by simp [gN,ay,bA.fp]
theorem Has.Jd (H:Has B S (ay enc kid sz k (.dC id g 0 xs.length xs.length sz) wss xs hole :: l)) (hw:wss[n]? = some ws) (hx:xs[n]? = some z) (hnode:kU sz k (enc z') ws') (hkw:iX k ws'=iX k ws) (hkid:kid z'=kid z) :
  Has B { S with H:=S.H.set id (.cells g (wss.set n ws').flatten) } (ay enc kid sz k (.dC id g 0 xs.length xs.length sz) (wss.set n ws') (xs.set n z') hole :: l):=by
 have hp:=eZ.1 (H.ok _ List.mem_cons_self)
 have hnd:(gN [ay enc kid sz k (.dC id g 0 xs.length xs.length sz) wss xs hole]).Nodup:=Has.nd0 (l0:=[_]) H
 rw [kK] at hnd
 have hidlt:id < S.nx:=Has.lt H (id:=id) (iI.2 ⟨_,List.mem_cons_self,by simp [ay,bA.fp,aP]⟩)
 have hs:=mW (k:=k) hw hkw hole
 have e:gN [ay enc kid sz k (.dC id g 0 xs.length xs.length sz) (wss.set n ws') (xs.set n z') hole]=aP (.dC id g 0 xs.length xs.length sz) ++ bG k hole wss:=by rw [kK,hs]
 refine Has.upd (l0:=[_]) (bs:=[_]) H (wf_set H.wf hidlt _) (Nat.le_refl _) (fun j hj _=>⟨?_,rfl⟩) (fun a ha=>?_) (by rw [e]; exact hnd) (fun j hj=>.inl (by rw [kK]; rw [e] at hj; exact hj))
 ·
  simp only [AL.aO]
  rw [if_neg (fun q=>hj (by subst q; rw [kK]; simp [aP]))]
 ·
  simp only [List.mem_cons,List.not_mem_nil,or_false] at ha
  subst ha
  refine eZ.2 (hp.set hw hx hnode (fun m _=>Iff.rfl) (fun q=>?_) ?_)
  ·
   rw [hkw,hkid]
   obtain ⟨u,h1,h2,h3,_⟩:=hp.node hx
   rw [hw] at h1; cases h1
   exact h3 q
  ·
   rw [hs]
   simp only [aP,List.singleton_append,List.nodup_cons] at hnd
   exact hnd.1
theorem Has.Hg {pre:List bA} {w:AV} {ys:List Int} (hpre:gN pre=aP w) (H:Has B S (pre ++ ay enc kid sz k (.dC id g 0 xs.length xs.length sz) wss xs hole :: l)) (hh:hole=none∨hole=some n) (hs:ic w ys S)
  (hw:wss[n]? = some ws) (hx:xs[n]? = some z) (hnode:kU sz k (enc z') ws') (hkw:iX k ws'=w) (hkid:kid z'=ys) :
  Has B { S with H:=S.H.set id (.cells g (wss.set n ws').flatten) } (ay enc kid sz k (.dC id g 0 xs.length xs.length sz) (wss.set n ws') (xs.set n z') none :: l):=by
 have H2:Has B S ((pre ++ [ay enc kid sz k (.dC id g 0 xs.length xs.length sz) wss xs hole]) ++ l):=by simpa using H
 have hp:=eZ.1 (H.ok (ay enc kid sz k (.dC id g 0 xs.length xs.length sz) wss xs hole) (by simp))
 have hnd:=Has.nd0 H2
 rw [oU,kK,hpre] at hnd
 have hn:n < wss.length:=(List.getElem?_eq_some_iff.1 hw).1
 have hidlt:id < S.nx:=Has.lt H (id:=id) (iI.2 ⟨ay enc kid sz k (.dC id g 0 xs.length xs.length sz) wss xs hole,by simp,by simp [ay,bA.fp,aP]⟩)
 have hperm:(bG k none (wss.set n ws')).Perm (aP w ++ bG k (some n) wss):=by
  have:=jM (k:=k) (wss:=wss.set n ws') (n:=n) (ws:=ws') (by rw [List.getElem?_set_self hn])
  rwa [hkw,rJ] at this
 have hsub:∃ q,(q ++ bG k (some n) wss).Perm (bG k hole wss):=by
  rcases hh with rfl | rfl
  ·
   exact ⟨_,(jM hw).symm⟩
  ·
   exact ⟨[],List.Perm.refl _⟩
 obtain ⟨q,hq⟩:=hsub
 have hnd2:(aP w ++ ([id] ++ (q ++ bG k (some n) wss))).Nodup:=by
  refine (List.Perm.nodup_iff ?_).1 hnd
  exact List.Perm.append_left _ (List.Perm.append_left _ hq.symm)
 have e:gN [ay enc kid sz k (.dC id g 0 xs.length xs.length sz) (wss.set n ws') (xs.set n z') none]=[id] ++ bG k none (wss.set n ws'):=by rw [kK]; rfl
 have hnd3:([id] ++ (aP w ++ bG k (some n) wss)).Nodup:=by
  have h1:(aP w ++ ([id] ++ bG k (some n) wss)).Nodup:=hnd2.sublist (List.Sublist.append_left (List.Sublist.append_left (List.sublist_append_right _ _) _) _)
  refine (List.Perm.nodup_iff ?_).1 h1
  rw [← List.append_assoc,← List.append_assoc]
  exact List.Perm.append_right _ List.perm_append_comm
 refine Has.upd (bs:=[_]) H2 (wf_set H.wf hidlt _) (Nat.le_refl _) (fun j hj _=>⟨?_,rfl⟩) (fun a ha=>?_) ?_ (fun j hj=>.inl ?_)
 ·
  simp only [AL.aO]
  rw [if_neg (fun q=>hj (by subst q; rw [oU,kK]; simp [aP]))]
 ·
  simp only [List.mem_cons,List.not_mem_nil,or_false] at ha
  subst ha
  refine eZ.2 (hp.set hw hx hnode (fun m hm=>?_) (fun _=>by rw [hkw,hkid]; exact hs) ?_)
  ·
   rcases hh with rfl | rfl
   ·
    simp
   ·
    simp [Ne.symm hm]
  ·
   intro hm
   have:=hperm.mem_iff.1 hm
   simp only [List.singleton_append,List.nodup_cons] at hnd3
   exact hnd3.1 this
 ·
  rw [e]
  exact (List.Perm.append_left _ hperm).nodup_iff.2 hnd3
 ·
  rw [e] at hj
  rw [oU,kK,hpre]
  rcases List.mem_append.1 hj with hj | hj
  ·
   exact List.mem_append_right _ (List.mem_append_left _ hj)
  ·
   rcases List.mem_append.1 (hperm.mem_iff.1 hj) with hj | hj
   ·
    exact List.mem_append_left _ hj
   ·
    exact List.mem_append_right _ (List.mem_append_right _ (hq.mem_iff.1 (List.mem_append_right _ hj)))
section
variable {C:fB} {ρ:Operand→Option AV} {x y:Operand} {t:Nat} {i:Int}
theorem rR (hp:ky enc kid sz k v wss xs hole S) {off:Nat} {vy:AV} {cv:List AV} (hz:idx xs i=some z) (h:ρ x=some (bq v i.toNat off)) (hy:ρ y=some vy) (hc:vy.cells=cv) (hpl:vy.plain=true) (hn:aJ C.P t=cv.length) (hag:(dQ C.P t).isSome=true) (hb:Nat.ble (off + cv.length) sz=true) :
  ∃ id g ws,v=.dC id g 0 xs.length xs.length sz∧wss[i.toNat]? = some ws∧kU sz k (enc z) ws∧oper C ρ S (.store t x y)=some (.skip { S with H:=S.H.set id (.cells g (wss.set i.toNat (setAt ws off cv)).flatten) }):=by
 obtain ⟨id,g,ws,a,b,h1,h2,rfl,h4,h5,h6,h7,h8,h9⟩:=hp.ptr hz off
 rw [h4] at h
 refine ⟨id,g,ws,rfl,h1,h2,?_⟩
 have hb:=Nat.le_of_ble_eq_true hb
 have hl:=h2.2.2.1
 subst hc
 have e:setAt wss.flatten (i.toNat * sz + off) vy.cells=(wss.set i.toNat (setAt ws off vy.cells)).flatten:=by
  rw [h8,h6,← h7]
  exact ER (by omega)
 simp only [oper,h,hy,sP,h5]
 rw [if_pos ⟨hn.symm,hpl,hag⟩,if_pos trivial,if_pos (by rw [h6]; simp only [List.length_append]; omega),e]
 rfl
theorem kU.JQ {d d':D} {ws:List AV} {off:Nat} {vy:AV} (h:kU sz k d ws) (hk:Nat.beq k off=false) {dd:D} (hl:Less (.d dd) vy) (hs:d.cells.set off dd=d'.cells) (hf:dd.isAgg=false):kU sz k d' (ws.set off vy):=by
 have hne:k ≠ off:=fun q=>by subst q; simp at hk
 refine ⟨by rw [← hs]; simp [h.1],by
  rw [← hs]
  exact xQ (fun c hc=>by
   rcases List.mem_or_eq_of_mem_set hc with hc | rfl
   ·
    exact uL h.2.1 c hc
   ·
    exact hf),by simp [h.2.2.1],?_⟩
 rw [← hs,List.map_set,List.set_comm _ _ (Ne.symm hne)]
 exact h.2.2.2.set hl off
theorem EP {ws:List AV} {off:Nat} {vy:AV} (hk:Nat.beq k off=false):iX k (ws.set off vy)=iX k ws:=by
 have hne:k ≠ off:=fun q=>by subst q; simp at hk
 unfold iX
 rw [List.getD_eq_getElem?_getD,List.getElem?_set_ne (Ne.symm hne),← List.getD_eq_getElem?_getD]
theorem kU.IJ {d d':D} {ws:List AV} {w:AV} {c:D} (h:kU sz k d ws) (hs:d.cells.set k c=d'.cells) (hf:c.isAgg=false):kU sz k d' (ws.set k w):=by
 refine ⟨by rw [← hs]; simp [h.1],by
  rw [← hs]
  exact xQ (fun c hc=>by
   rcases List.mem_or_eq_of_mem_set hc with hc | rfl
   ·
    exact uL h.2.1 c hc
   ·
    exact hf),by simp [h.2.2.1],?_⟩
 rw [← hs,List.map_set,List.set_set]
 have:=h.2.2.2.set (Less.any w) k
 rwa [List.set_set] at this
theorem Ee {ws:List AV} {w:AV} (h:k < ws.length):iX k (ws.set k w)=w:=by
 unfold iX
 rw [List.getD_eq_getElem?_getD,List.getElem?_set_self h]; rfl
end
section
variable {C:fB} {nt:Nat} {ops:Array Oper} {rest:List Oper} {e:Env} {Q:Stp→Prop} {t ty:Nat} {p:String} {af:Array Edge} {gg:Option (Nat × Bool)} {x y:Operand} {i:Int}
theorem ai.pJ {off tt:Nat} {vy:AV} {dd:D} (H:Has B S (ay enc kid sz k v wss xs hole :: l)) (hw:bL ops e { dst:=none,op:=.store tt x y,type:=ty,pos:=p,after:=af,guard:=gg }=some true) (hz:idx xs i=some z) (h:bI e x=some (bq v i.toNat off)) (hy:bI e y=some vy)
  (hc:vy.cells=[vy]) (hpl:vy.plain=true) (hl:Less (.d dd) vy) (hn:aJ C.P tt=1) (hag:(dQ C.P tt).isSome=true) (hb:Nat.ble (off + 1) sz=true) (hk:Nat.beq k off=false) (hs:(enc z).cells.set off dd=(enc z').cells) (hf:dd.isAgg=false) (hkid:kid z'=kid z)
  (kk:∀ wss' S',Has B S' (ay enc kid sz k v wss' (jw xs i z') hole :: l)→ai R C nt ops rest e S' Q) :
  ai R C nt ops ({ dst:=none,op:=.store tt x y,type:=ty,pos:=p,after:=af,guard:=gg } :: rest) e S Q:=by
 obtain ⟨id,g,ws,rfl,h1,h2,h3⟩:=rR (C:=C) (ρ:=bI e) (eZ.1 (H.ok _ List.mem_cons_self)) hz h hy hc hpl hn hag hb
 have:=Has.Jd H (ws':=ws.set off vy) h1 (dB hz).2 (h2.JQ hk hl hs hf) (EP hk) hkid
 exact ai.skip hw h3 (kk (wss.set i.toNat (setAt ws off [vy])) _ this)
theorem ai.xX {tt:Nat} {w:AV} {ys:List Int} {c:D} (H:Has B S (aG w ys :: ay enc kid sz k v wss xs hole :: l)) (hw:bL ops e { dst:=none,op:=.store tt x y,type:=ty,pos:=p,after:=af,guard:=gg }=some true) (hz:idx xs i=some z) (hh:hole=none∨hole=some i.toNat) (h:bI e x=some (bq v i.toNat k)) (hy:bI e y=some w)
  (hn:aJ C.P tt=1) (hag:(dQ C.P tt).isSome=true) (hs:(enc z).cells.set k c=(enc z').cells) (hf:c.isAgg=false) (hkid:kid z'=ys)
  (kk:∀ wss' S',Has B S' (ay enc kid sz k v wss' (jw xs i z') none :: l)→ai R C nt ops rest e S' Q) :
  ai R C nt ops ({ dst:=none,op:=.store tt x y,type:=ty,pos:=p,after:=af,guard:=gg } :: rest) e S Q:=by
 have hs0:=fE.1 (H.ok _ List.mem_cons_self)
 have hp:=eZ.1 (H.ok (ay enc kid sz k v wss xs hole) (by simp))
 obtain ⟨id,g,ws,rfl,h1,h2,h3⟩:=rR (C:=C) (ρ:=bI e) hp hz h hy hs0.plain.2 hs0.plain.1 hn hag (by have:=hp.2.1; exact Nat.ble_eq_true_of_le (by simp; omega))
 have:=Has.Hg (pre:=[aG w ys]) (by simp [gN,aG,bA.fp]) H hh hs0 (ws':=ws.set k w) h1 (dB hz).2 (h2.IJ hs hf) (Ee (by rw [h2.2.2.1]; exact hp.2.1)) hkid
 exact ai.skip hw h3 (kk (wss.set i.toNat (setAt ws k [w])) _ this)
theorem ai.xD {tt:Nat} {vy:AV} {cv:List AV} (H:Has B S (ay enc kid sz k v wss xs hole :: l)) (hw:bL ops e { dst:=none,op:=.store tt x y,type:=ty,pos:=p,after:=af,guard:=gg }=some true) (hz:idx xs i=some z) (hh:hole=none∨hole=some i.toNat) (h:bI e x=some (bq v i.toNat 0)) (hy:bI e y=some vy)
  (hc:vy.cells=cv) (hpl:vy.plain=true) (hn:aJ C.P tt=sz) (hag:(dQ C.P tt).isSome=true) (hcl:cv.length=sz) (hel:(enc z').cells.length=sz) (hef:jF (enc z').cells=true) (hle:fG (((enc z').cells.map AV.d).set k .any) cv) (hkw:iX k cv=.d .aT) (hkid:kid z'=[])
  (kk:∀ wss' S',Has B S' (ay enc kid sz k v wss' (jw xs i z') none :: l)→ai R C nt ops rest e S' Q) :
  ai R C nt ops ({ dst:=none,op:=.store tt x y,type:=ty,pos:=p,after:=af,guard:=gg } :: rest) e S Q:=by
 have hp:=eZ.1 (H.ok _ List.mem_cons_self)
 obtain ⟨id,g,ws,rfl,h1,h2,h3⟩:=rR (C:=C) (ρ:=bI e) hp hz h hy hc hpl (by rw [hn,hcl]) hag (Nat.ble_eq_true_of_le (by omega))
 have e1:setAt ws 0 cv=cv:=by
  have:=nR cv [] ws [] (by rw [hcl,h2.2.2.1])
  simpa using this
 have:=Has.Hg (pre:=[]) (w:=.d .aT) (ys:=[]) (by simp [gN,aP]) H hh zU (ws':=cv) h1 (dB hz).2 ⟨hel,hef,hcl,hle⟩ hkw hkid
 rw [e1] at h3
 exact ai.skip hw h3 (kk (wss.set i.toNat cv) _ this)
end
end
end
end
end Go.Ev

namespace Go.Ev
noncomputable section
set_option linter.unusedVariables false
set_option linter.unusedSimpArgs false
variable {R:bK} {P:Program} {B:St}
theorem D9 {cx:Cx} {S:St} {w:World} (h:aY R cx S w) {id g sz:Nat} {xs:List D} {cs0:List AV} (hcs0:∀ (i j:Nat) (x c:D),xs[i]? = some x→x.cells[j]? = some c→j < sz→∃ y,cs0[i * sz + j]? = some y∧Less (.d c) y) {lim:Nat} (hid:S.H.get id=some (.cells g cs0)) (hpos:0 < sz) (hsz:∀ x ∈ xs,x.cells.length=sz∧jF x.cells=true)
  {fr':Nat→Nat→Prop} (hp:∀ (b o:Nat) (v:Value),¬ cx.fr b o→w.cell? ⟨b,o,none⟩=some v→w.cell? ⟨b,o,none⟩=some v∧¬ fr' b o) (hfr:∀ o,¬ fr' (cx.bm id) o) {u:Value} (hu:aN cx S w (.dC id g 0 xs.length lim sz) u):bB w fr' (.sl xs false) u:=by
 cases hu with
 | dC _ _ _ _ _ _ b cap hn hl hcap h63 hq =>
  obtain ⟨hb,_,_⟩:=hq (by unfold cur; rw [hid])
  subst hb
  obtain ⟨c1,c2,arr,el,c3,⟨c4,c5,c6⟩,c7⟩:=h.cells id g _ hid
  refine ⟨?_,rfl⟩
  by_cases hne:xs=[]
  ·
   subst hne; exact .sl0 _ cap false (fun q=>by cases q)
  have hcap:xs.length ≤ cap:=Nat.le_trans hl hcap
  let vs:Nat→List Value:=fun i=>(List.range sz).map fun j=>(arr[i * sz + j]?).getD default
  have hcell:∀ (i j:Nat) (x:D),xs[i]? = some x→j < sz→∃ c v,x.cells[j]? = some c∧arr[i * sz + j]? = some v∧aN cx S w (.d c) v∧v.oneCell'=true:=fun i j x hx hj=>by
   have hxl:=(hsz x (List.mem_of_getElem? hx)).1
   have hc:x.cells[j]? = some x.cells[j]:=List.getElem?_eq_getElem (by omega)
   obtain ⟨y,y1,y2⟩:=hcs0 i j x _ hx hc hj
   obtain ⟨v,v1,v2,v3⟩:=c7 (i * sz + j) _ y1
   exact ⟨_,v,hc,v1,y2 _ _ _ _ v2,v3⟩
  have hvs:∀ (i j:Nat) (v:Value),(vs i)[j]? = some v→j < sz∧(arr[i * sz + j]?).getD default=v:=fun i j v hv=>by
   simp only [vs,List.getElem?_map,Option.map_eq_some_iff] at hv
   obtain ⟨k,hk,rfl⟩:=hv
   rw [List.getElem?_eq_some_iff] at hk
   obtain ⟨hlt,hk⟩:=hk
   simp at hlt hk
   subst hk
   exact ⟨hlt,rfl⟩
  refine .sl xs false (cx.bm id) 0 cap sz vs hne hcap (fun q=>by cases q) (fun i x hx=>(hsz x (List.mem_of_getElem? hx)).1) (fun i hi=>by simp [vs]) (fun i x hx=>?_) (fun i j v hi hv=>?_)
  ·
   have hm:=hsz x (List.mem_of_getElem? hx)
   refine gq.of_cells hm.2 (by simp [vs,hm.1]) (fun v hv=>?_) (fun j c v hc hv=>?_)
   ·
    obtain ⟨j,hj,rfl⟩:=List.getElem_of_mem hv
    have hj':=List.getElem?_eq_getElem hj
    obtain ⟨k1,k2⟩:=hvs i j _ hj'
    obtain ⟨c,v,_,v1,_,v3⟩:=hcell i j x hx k1
    rw [v1] at k2
    rw [← k2]; exact v3
   ·
    obtain ⟨k1,k2⟩:=hvs i j v hv
    obtain ⟨c',v',h1,v1,v2,v3⟩:=hcell i j x hx k1
    rw [v1] at k2
    simp at k2
    subst k2
    rw [hc] at h1; cases h1
    have:=(v2.dd.mono hp).1
    rw [(kM v3).1] at this
    exact this
  ·
   obtain ⟨k1,k2⟩:=hvs i j v hv
   obtain ⟨c',v',h1,v1,v2,v3⟩:=hcell i j xs[i] (List.getElem?_eq_getElem hi) k1
   rw [v1] at k2
   simp at k2
   subst k2
   refine ⟨?_,hfr _⟩
   simp only [World.cell?,c3,Nat.zero_add]
   simp [v1]
def GG (sz n:Nat) (v:AV) (cs:List AV) (S:St):Prop:=∃ id g,v=.dC id g 0 n n sz∧S.H.get id=some (.cells g cs)∧cs.length=n * sz
def fD (sz n:Nat) (v:AV) (cs:List AV):bA:=.abs (aP v) (GG sz n v cs)
theorem uC {sz n:Nat} {v:AV} {cs:List AV} {S:St}:(fD sz n v cs).ok S↔GG sz n v cs S:=by
 constructor
 ·
  exact fun h=>h.2 S (fun _ _=>rfl)
 ·
  rintro ⟨id,g,rfl,h1,h2⟩
  refine ⟨fun j hj=>?_,fun S' k=>⟨id,g,rfl,by rw [k id (by simp [aP])]; exact h1,h2⟩⟩
  simp only [aP,List.mem_singleton] at hj
  subst hj; exact ⟨_,h1⟩
theorem Gi {S:St} {v:AV} {c:Int} (h:GG 1 1 v [iA c] S):ic v [c] S:=by
 obtain ⟨id,g,rfl,h1,h2⟩:=h
 exact ⟨rfl,rfl,rfl,by decide,_,h1,rfl,rfl⟩
section
variable {S:St} {l:List bA}
theorem Has.JN {v:AV} {c:Int} (H:Has B S (fD 1 1 v [iA c] :: l)):Has B S (aG v [c] :: l):=by
 refine Has.o9 (l0:=[_]) (bs:=[_]) H (fun a ha=>?_) ?_ (fun id hid=>by simpa [gN,aG,fD,bA.fp] using hid)
 ·
  simp only [List.mem_cons,List.not_mem_nil,or_false] at ha
  subst ha
  exact fE.2 (Gi (uC.1 (H.ok _ List.mem_cons_self)))
 ·
  have:=Has.nd0 (l0:=[_]) H
  simpa [gN,aG,fD,bA.fp] using this
theorem Has.Fb (H:Has B S l):Has B S (aG (.d .aT) [] :: l):=by
 refine Has.o9 (l0:=[]) (bs:=[_]) H (fun a ha=>?_) (by simp [gN,aG,bA.fp,aP]) (fun id hid=>by simp [gN,aG,bA.fp,aP] at hid)
 simp only [List.mem_cons,List.not_mem_nil,or_false] at ha
 subst ha
 exact fE.2 zU
theorem Has.Gd {α:Type} (enc:α→D) (kid:α→List Int) (sz k:Nat) (hk:Nat.blt k sz=true) (H:Has B S l):Has B S (ay enc kid sz k (.d .aT) [] ([]:List α) none :: l):=by
 refine Has.o9 (l0:=[]) (bs:=[_]) H (fun a ha=>?_) (by simp [gN,ay,bA.fp,aP,bG]) (fun id hid=>by simp [gN,ay,bA.fp,aP,bG] at hid)
 simp only [List.mem_cons,List.not_mem_nil,or_false] at ha
 subst ha
 exact eZ.2 ⟨rfl,by have:=Nat.le_of_ble_eq_true hk; omega,fun i x ws h=>by simp at h,rfl⟩
section
variable {C:fB} {ρ:Operand→Option AV} {x y:Operand} {t:Nat}
theorem yj {n el sz:Nat} {ps:Array (Nat × Operand)} {zd:D} {vs:List AV} {cs:List (List AV)} (H:Has B S l) (hr:C.rowT t=true) (he:bf C.P t=some el) (ha:(dQ C.P el).isSome=true) (hz:zeroOf C.P el=some zd) (hs:aJ C.P el=sz) (hzl:zd.cells.length=sz) (hb:n * sz ≤ 16777216∧0 < n * sz)
  (hv:qb sz vs cs) (hn:vs.length=n) (hev:nV ρ ps=some (rC 0 vs)):∃ v S',oper C ρ S (.buildSlice t n ps)=some (.val v S')∧Has B S' (fD sz n v cs.flatten :: l):=by
 obtain ⟨k1,k2⟩:=hv.len
 subst hs
 have hn0:n ≠ 0:=fun q=>by subst q; simp at hb
 have f1:=Bt hv [] ((List.replicate n zd.cells).flatten.map .d) (by simp) (by
  rw [List.length_map,List.length_flatten,List.map_replicate,List.sum_replicate_nat,hzl,hn])
 simp only [List.flatten_nil,List.nil_append,List.length_nil] at f1
 have hrow:vH C t n=true:=by
  simp only [vH,hr,Bool.true_and]
  cases hq:Nat.beq n 0
  ·
   rfl
  ·
   exact absurd (Nat.eq_of_beq_eq_true hq) hn0
 have hlen:∀ (cs:List (List AV)),(∀ c ∈ cs,c.length=aJ C.P el)→cs.flatten.length=cs.length * aJ C.P el:=fun cs=>by
  induction cs with
  | nil=>intro _; simp
  | cons c cs ih=>intro h; rw [List.flatten_cons,List.length_append,ih (fun d hd=>h d (List.mem_cons_of_mem _ hd)),h c List.mem_cons_self,List.length_cons,Nat.add_mul]; omega
 refine ⟨.dC S.nx 0 0 n n (aJ C.P el),bN S (.cells 0 cs.flatten),?_,H.new (.cells 0 cs.flatten) (a:=fD (aJ C.P el) n (.dC S.nx 0 0 n n (aJ C.P el)) cs.flatten) rfl (uC.2 ⟨_,_,rfl,by simp only [bN,AL.aO,if_true],?_⟩)⟩
 ·
  simp only [oper,hrow,cond_true,hev,oZ,he,hz]
  rw [if_pos ⟨hzl,hb.2,hb.1,ha⟩]
  simp only [H.zS,cond_false,f1,Option.map_some]
  rfl
 ·
  rw [hlen cs k2,← k1,hn]
theorem qN {el nb n:Nat} (hb:n * nb ≤ bound) (hnb:bytesOf C.P el=nb) (h0:(Nat.blt 0 nb && Nat.ble nb 65536)=true) (hz:eu C el=true):nN C el n=true:=by
 subst hnb
 simp only [Bool.and_eq_true] at h0
 simp only [nN,hz,Bool.and_true,Bool.and_eq_true]
 exact ⟨⟨Nat.ble_eq_true_of_le hb,h0.1⟩,h0.2⟩
theorem zH {sz n:Nat} {v:AV} {cs:List AV} (h:GG sz n v cs S) (hpos:0 < sz):iL S sz v=some (cs,n):=by
 obtain ⟨id,g,rfl,h1,h2⟩:=h
 simp only [iL,nz,St.look,h1,Nat.beq_refl,cond_true]
 rw [if_pos ⟨trivial,hpos,by omega⟩,List.drop_zero,← h2,List.take_length]
section
variable {α:Type} {enc:α→D} {kid:α→List Int} {sz k:Nat} {v rv:AV} {wss:List (List AV)} {xs:List α} {z:α} {c:List AV}
theorem vU {u el nb:Nat} {r:List α} (H:Has B S (fD sz 1 rv c :: ay enc kid sz k v wss xs none :: l)) (hx:ρ x=some v) (hy:ρ y=some rv) (hnr:C.rowT t=true) (hu:ik C u=true) (he:bf C.P t=some el) (hs:aJ C.P el=sz)
  (hr:app nb xs [z]=some r) (hnb:bytesOf C.P el=nb) (h0:(Nat.blt 0 nb && Nat.ble nb 65536)=true) (hz:eu C el=true) (hnode:kU sz k (enc z) c) (hkw:iX k c=.d .aT) (hkid:kid z=[]) :
  ∃ v' S',oper C ρ S (.call { callee:=.builtin .append,args:=#[x,y],argTypes:=#[t,u] })=some (.val v' S')∧∃ wss',Has B S' (ay enc kid sz k v' wss' r none :: l):=by
 obtain ⟨hb,rfl⟩:=kW hr
 subst hs
 have hm:fU ρ [x,y]=some [v,rv]:=by simp only [fU,hx,hy,Option.map_some]
 have hp:=eZ.1 (H.ok (ay enc kid (aJ C.P el) k v wss xs none) (by simp))
 have hraw:=uC.1 (H.ok (fD (aJ C.P el) 1 rv c) (by simp))
 have hpos:0 < aJ C.P el:=by have:=hp.2.1; omega
 have hsrc:=zH hraw hpos
 have hg:nN C el (xs.length + 1)=true:=qN (by simpa using hb) hnb h0 hz
 have H2:Has B S ([fD (aJ C.P el) 1 rv c,ay enc kid (aJ C.P el) k v wss xs none] ++ l):=H
 have hnd:=Has.nd0 H2
 have e2:gN [fD (aJ C.P el) 1 rv c,ay enc kid (aJ C.P el) k v wss xs none]=aP rv ++ (aP v ++ bG k none wss):=by simp [gN,ay,fD,bA.fp]
 rw [e2] at hnd
 have hsub:bG k none (wss ++ [c])=bG k none wss:=by rw [rW,hkw]; simp [aP]
 simp only [oper,hm,dU,List.getElem?_toArray,List.getElem?_cons_zero,List.getElem?_cons_succ,hu,if_true,he]
 obtain ⟨h1,h2,h3,h4⟩:=id hp
 have hnodes:∀ (i:Nat) (y:α) (ws:List AV),(xs ++ [z])[i]? = some y→(wss ++ [c])[i]? = some ws→kU (aJ C.P el) k (enc y) ws∧((wss[i]? = some ws∧ic (iX k ws) (kid y) S)∨(iX k ws=.d .aT∧kid y=[])):=fun i y ws hy hw=>by
  by_cases hi:i < xs.length
  ·
   rw [List.getElem?_append_left hi] at hy
   rw [List.getElem?_append_left (by omega)] at hw
   exact ⟨(h3 i y ws hy hw).1,.inl ⟨hw,(h3 i y ws hy hw).2 (by simp)⟩⟩
  ·
   have hi':i=xs.length:=by
    have:=(List.getElem?_eq_some_iff.1 hy).1
    simp at this; omega
   subst hi'
   rw [List.getElem?_append_right (Nat.le_refl _)] at hy
   rw [← h1,List.getElem?_append_right (Nat.le_refl _)] at hw
   simp at hy hw
   subst hy; subst hw
   exact ⟨hnode,.inr ⟨hkw,hkid⟩⟩
 have finish:∀ (v':AV) (id g:Nat) (S':St),v'=.dC id g 0 (xs.length + 1) (xs.length + 1) (aJ C.P el)→S'.H.get id=some (.cells g (wss ++ [c]).flatten)→(∀ j,j ≠ id→S'.H.get j=S.H.get j)→S'.T=S.T→S'.Wf→S.nx ≤ S'.nx→(id ∈ aP v∨S.nx ≤ id)→id ∉ bG k none wss →
   ∃ wss',Has B S' (ay enc kid (aJ C.P el) k v' wss' (xs ++ [z]) none :: l):=fun v' id g S' hv hH hsame hT wf nx hin hout=>by
  subst hv
  refine ⟨wss ++ [c],Has.upd (bs:=[_]) H2 wf nx (fun j hj hlt=>⟨hsame j (fun q=>?_),by rw [hT]⟩) (fun a ha=>?_) ?_ (fun j hj=>?_)⟩
  ·
   subst q
   rcases hin with h | h
   ·
    exact hj (by rw [e2]; exact List.mem_append_right _ (List.mem_append_left _ h))
   ·
    omega
  ·
   simp only [List.mem_cons,List.not_mem_nil,or_false] at ha
   subst ha
   refine eZ.2 ⟨by simp [h1],h2,fun i y ws hy hw=>⟨(hnodes i y ws hy hw).1,fun _=>?_⟩,rfl,by simp,by simp,rfl,hH⟩
   rcases (hnodes i y ws hy hw).2 with ⟨q1,q2⟩ | ⟨q1,q2⟩
   ·
    refine q2.keep (fun j hj=>hsame j (fun q=>?_))
    subst q
    exact hout (iF.2 ⟨i,ws,q1,by simp,hj⟩)
   ·
    rw [q1,q2]; exact zU
  ·
   rw [kK,hsub]
   simp only [aP,List.singleton_append,List.nodup_cons]
   refine ⟨hout,?_⟩
   have:=(List.nodup_append.1 hnd).2.1
   exact (List.nodup_append.1 this).2.1
  ·
   rw [kK,hsub] at hj
   rw [e2]
   simp only [aP,List.singleton_append,List.mem_cons] at hj
   rcases hj with rfl | hj
   ·
    rcases hin with h | h
    ·
     exact .inl (List.mem_append_right _ (List.mem_append_left _ h))
    ·
     exact .inr h
   ·
    exact .inl (List.mem_append_right _ (List.mem_append_right _ hj))
 have hltsub:∀ j ∈ bG k none wss,j < S.nx:=fun j hj=>Has.lt H (iI.2 ⟨ay enc kid (aJ C.P el) k v wss xs none,by simp,by simp [ay,bA.fp,hj]⟩)
 revert h4
 split
 ·
  intro hxs
  subst hxs
  have hw0:wss=[]:=List.eq_nil_of_length_eq_zero (by simpa using h1)
  subst hw0
  refine ⟨.dC S.nx 0 0 1 1 (aJ C.P el),{ S with H:=S.H.set S.nx (.cells 0 c),nx:=S.nx + 1 },?_,?_⟩
  ·
   simp only [hnr,cond_true,gB,hsrc]
   rw [if_neg (by decide),if_pos ⟨by decide,hpos,rfl,by simpa using hg⟩]
   simp
  ·
   exact finish _ S.nx 0 _ rfl (by simp [AL.aO]) (fun j hj=>by simp only [AL.aO]; rw [if_neg (Ne.symm hj)]) rfl (zV H.wf _) (Nat.le_succ _) (.inr (Nat.le_refl _)) (by simp [bG])
 ·
  rename_i id g off len lim sz'
  rintro ⟨rfl,rfl,rfl,rfl,hH⟩
  have hfl:∀ (q:List (List AV)),(∀ ws ∈ q,ws.length=aJ C.P el)→q.flatten.length=q.length * aJ C.P el:=fun q=>by
   induction q with
   | nil=>intro _; simp
   | cons a q ih=>intro hq; rw [List.flatten_cons,List.length_append,ih (fun w hw=>hq w (List.mem_cons_of_mem _ hw)),hq a List.mem_cons_self,List.length_cons,Nat.add_mul]; omega
  have hlen:wss.flatten.length=xs.length * aJ C.P el:=by rw [hfl wss hp.lens,h1]
  have hlt:id < S.nx:=Has.lt H (iI.2 ⟨ay enc kid (aJ C.P el) k (.dC id g 0 xs.length xs.length (aJ C.P el)) wss xs none,by simp,by simp [ay,bA.fp,aP]⟩)
  refine ⟨.dC id (g + 1) 0 (xs.length + 1) (xs.length + 1) (aJ C.P el),{ S with H:=S.H.set id (.cells (g + 1) (wss.flatten.take (xs.length * aJ C.P el) ++ c)) },?_,?_⟩
  ·
   simp only [iP,hsrc,St.look,hH,Nat.beq_refl,cond_true]
   rw [if_pos ⟨trivial,hpos,by omega⟩,if_neg (by decide),if_neg (by omega),if_pos ⟨trivial,hg⟩]
   rfl
  ·
   refine finish _ id (g + 1) _ rfl ?_ (fun j hj=>by simp only [AL.aO]; rw [if_neg (Ne.symm hj)]) rfl (wf_set H.wf hlt _) (Nat.le_refl _) (.inl (by simp [aP])) ?_
   ·
    simp only [AL.aO,if_true]
    rw [← hlen,List.take_length,List.flatten_append]; simp
   ·
    have:=(List.nodup_append.1 hnd).2.1
    simp only [aP,List.singleton_append,List.nodup_cons] at this
    exact this.1
 ·
  exact fun q=>q.elim
end
section
variable {w rv:AV} {ys r:List Int} {n:Int}
theorem wN {u el nb:Nat} (H:Has B S (fD 1 1 rv [iA n] :: aG w ys :: l)) (hx:ρ x=some w) (hy:ρ y=some rv) (hnr:C.rowT t=true) (hu:ik C u=true) (he:bf C.P t=some el) (hs:aJ C.P el=1)
  (hr:app nb ys [n]=some r) (hnb:bytesOf C.P el=nb) (h0:(Nat.blt 0 nb && Nat.ble nb 65536)=true) (hz:eu C el=true) :
  ∃ w' S',oper C ρ S (.call { callee:=.builtin .append,args:=#[x,y],argTypes:=#[t,u] })=some (.val w' S')∧Has B S' (aG w' r :: l):=by
 obtain ⟨hb,rfl⟩:=kW hr
 have hm:fU ρ [x,y]=some [w,rv]:=by simp only [fU,hx,hy,Option.map_some]
 have hp:=fE.1 (H.ok (aG w ys) (by simp))
 have hraw:=uC.1 (H.ok (fD 1 1 rv [iA n]) (by simp))
 have hsrc:=zH hraw (by decide)
 have hg:nN C el (ys.length + 1)=true:=qN (by simpa using hb) hnb h0 hz
 have H2:Has B S ([fD 1 1 rv [iA n],aG w ys] ++ l):=H
 have e2:gN [fD 1 1 rv [iA n],aG w ys]=aP rv ++ aP w:=by simp [gN,aG,fD,bA.fp]
 have finish:∀ (w':AV) (id g lim:Nat) (cs:List AV) (S':St),w'=.dC id g 0 (ys.length + 1) lim 1→0 < lim→cs.length=lim→cs.take (ys.length + 1)=(ys ++ [n]).map iA→S'.H.get id=some (.cells g cs)→(∀ j,j ≠ id→S'.H.get j=S.H.get j)→S'.T=S.T→S'.Wf→S.nx ≤ S'.nx→(id ∈ aP w∨S.nx ≤ id) →
   Has B S' (aG w' (ys ++ [n]) :: l):=fun w' id g lim cs S' hv hl hcl hct hH hsame hT wf nx hin=>by
  subst hv
  refine Has.upd (bs:=[_]) H2 wf nx (fun j hj hlt=>⟨hsame j (fun q=>?_),by rw [hT]⟩) (fun a ha=>?_) (by simp [gN,aG,bA.fp,aP]) (fun j hj=>?_)
  ·
   subst q
   rcases hin with h | h
   ·
    exact hj (by rw [e2]; exact List.mem_append_right _ h)
   ·
    omega
  ·
   simp only [List.mem_cons,List.not_mem_nil,or_false] at ha
   subst ha
   exact fE.2 ⟨rfl,rfl,by simp,hl,cs,hH,hcl,hct⟩
  ·
   have:j=id:=by simpa [gN,aG,bA.fp,aP] using hj
   subst this
   rcases hin with h | h
   ·
    exact .inl (by rw [e2]; exact List.mem_append_right _ h)
   ·
    exact .inr h
 simp only [oper,hm,dU,List.getElem?_toArray,List.getElem?_cons_zero,List.getElem?_cons_succ,hu,if_true,he]
 unfold ic at hp
 split at hp
 ·
  subst hp
  refine ⟨.dC S.nx 0 0 1 1 1,{ S with H:=S.H.set S.nx (.cells 0 [iA n]),nx:=S.nx + 1 },?_,?_⟩
  ·
   simp only [hnr,cond_true,gB,hs,hsrc]
   rw [if_neg (by decide),if_pos ⟨by decide,by decide,rfl,by simpa using hg⟩]
   rfl
  ·
   exact finish _ S.nx 0 1 _ _ rfl (by decide) rfl rfl (by simp [AL.aO]; rfl) (fun j hj=>by simp only [AL.aO]; rw [if_neg (Ne.symm hj)]) rfl (zV H.wf _) (Nat.le_succ _) (.inr (Nat.le_refl _))
 ·
  rename_i id g off len lim sz'
  obtain ⟨rfl,rfl,rfl,hlim,cs,hH,hcl,hct⟩:=hp
  have hle:ys.length ≤ cs.length:=by have:=congrArg List.length hct; simp at this; omega
  have hlt:id < S.nx:=Has.lt H (iI.2 ⟨aG (.dC id g 0 ys.length lim 1) ys,by simp,by simp [aG,bA.fp,aP]⟩)
  by_cases hroom:ys.length + 1 ≤ cs.length
  ·
   refine ⟨.dC id g 0 (ys.length + 1) lim 1,{ S with H:=S.H.set id (.cells g (cs.set ys.length (iA n))) },?_,?_⟩
   ·
    simp only [iP,hs,hsrc,St.look,hH,Nat.beq_refl,cond_true]
    rw [if_pos ⟨trivial,by decide,by omega⟩,if_neg (by decide),if_pos (by omega)]
    simp only [Option.map_some,setAt]
    rw [show 0 + ys.length * 1=ys.length by omega,show max lim (ys.length + 1)=lim by omega]
   ·
    refine finish _ id g lim (cs.set ys.length (iA n)) _ rfl hlim (by simp [hcl]) ?_ (by simp only [AL.aO,if_true]) (fun j hj=>by simp only [AL.aO]; rw [if_neg (Ne.symm hj)]) rfl (wf_set H.wf hlt _) (Nat.le_refl _) (.inl (by simp [aP]))
    rw [List.take_add_one,List.take_set_of_le (Nat.le_refl _),hct,List.getElem?_set_self (by omega)]
    simp
  ·
   refine ⟨.dC id (g + 1) 0 (ys.length + 1) (ys.length + 1) 1,{ S with H:=S.H.set id (.cells (g + 1) (cs.take (ys.length * 1) ++ [iA n])) },?_,?_⟩
   ·
    simp only [iP,hs,hsrc,St.look,hH,Nat.beq_refl,cond_true]
    rw [if_pos ⟨trivial,by decide,by omega⟩,if_neg (by decide),if_neg (by omega),if_pos ⟨trivial,hg⟩]
    rfl
   ·
    refine finish _ id (g + 1) (ys.length + 1) (cs.take (ys.length * 1) ++ [iA n]) _ rfl (by omega) (by simp; omega) ?_ (by simp only [AL.aO,if_true]) (fun j hj=>by simp only [AL.aO]; rw [if_neg (Ne.symm hj)]) rfl (wf_set H.wf hlt _) (Nat.le_refl _) (.inl (by simp [aP]))
    rw [Nat.mul_one,hct,List.take_of_length_le (by simp)]
    simp
 ·
  exact hp.elim
theorem qg {el:Nat} {i:Int} {kk:IntKind} {q:Nat} (H:Has B S l) (hi:l[q]? = some (aG w ys)) (hz:idx ys i=some n) (hx:ρ x=some w) (hy:ρ y=some (.d (.int kk i)))
  (he:bf C.P t=some el) (ha:(dQ C.P el).isSome=true) (hs:aJ C.P el=1):oper C ρ S (.indexAddr t x y)=some (.val (bq w i.toNat 0) S):=by
 have hp:=fE.1 (H.at hi)
 obtain ⟨h0,h1⟩:=dB hz
 unfold ic at hp
 split at hp
 ·
  subst hp; simp at h1
 ·
  rename_i id g off len lim sz'
  obtain ⟨rfl,rfl,rfl,hlim,cs,hH,hcl,hct⟩:=hp
  refine bD hx hy ?_
  simp only [gP,he,h0,ha,decide_true,Bool.and_self,if_true]
  rw [if_pos ⟨(List.getElem?_eq_some_iff.1 h1).1,hs.symm⟩,hs]
  simp [bq]
 ·
  exact hp.elim
theorem pq {i:Int} {q:Nat} (H:Has B S l) (hi:l[q]? = some (aG w ys)) (hz:idx ys i=some n) (h:ρ x=some (bq w i.toNat 0)) (ha:dQ C.P t=some false):oper C ρ S (.load t x)=some (.val (.d (.int .i64 n)) S):=by
 have hp:=fE.1 (H.at hi)
 obtain ⟨h0,h1⟩:=dB hz
 unfold ic at hp
 split at hp
 ·
  subst hp; simp at h1
 ·
  rename_i id g off len lim sz'
  obtain ⟨rfl,rfl,rfl,hlim,cs,hH,hcl,hct⟩:=hp
  have hlt:=(List.getElem?_eq_some_iff.1 h1).1
  have hc:cs[i.toNat]? = some (iA n):=by
   have:(cs.take ys.length)[i.toNat]? = some (iA n):=by rw [hct,List.getElem?_map,h1]; rfl
   rwa [List.getElem?_take_of_lt hlt] at this
  have:part C.P t cs (i.toNat * 1 + 0)=some (iA n):=by
   unfold part; rw [ha]; simpa using hc
  simp only [bq] at h
  simp only [oper,h,kF,St.look,hH,Nat.beq_refl,cond_true,this,Option.map_some]
  rfl
 ·
  exact hp.elim
theorem BD {el:Nat} {i:Int} {kk:IntKind} {hi:Operand} (H:Has B S (aG w ys :: l)) (hx:ρ x=some w) (hh:ρ hi=some (.d (.int kk i))) (he:bf C.P t=some el) (hu:(C.P.underlying el).isSome=true) (hs:aJ C.P el=1) (hc:cut ys 0 i=some r) :
  ∃ w',oper C ρ S (.slice t x none (some hi) none)=some (.val w' S)∧Has B S (aG w' r :: l):=by
 have hp:=fE.1 (H.ok _ List.mem_cons_self)
 obtain ⟨⟨_,h0,h1⟩,rfl⟩:=xR hc
 have again:∀ w',aP w'=aP w→ic w' ((ys.take i.toNat).drop (0:Int).toNat) S→Has B S (aG w' ((ys.take i.toNat).drop (0:Int).toNat) :: l):=fun w' e q=>by
  refine Has.o9 (l0:=[_]) (bs:=[_]) H (fun a ha=>?_) ?_ (fun id hid=>?_)
  ·
   simp only [List.mem_cons,List.not_mem_nil,or_false] at ha
   subst ha; exact fE.2 q
  ·
   have:=Has.nd0 (l0:=[_]) H
   simpa [gN,aG,bA.fp,e] using this
  ·
   simpa [gN,aG,bA.fp,e] using hid
 unfold ic at hp
 split at hp
 ·
  subst hp
  have hi0:i=0:=by simp at h1; omega
  subst hi0
  refine ⟨.d .aT,?_,again _ rfl rfl⟩
  simp [oper,hx,vK,hh,kL,vG,he,zL,hu,gW,asNat]
 ·
  rename_i id g off len lim sz'
  obtain ⟨rfl,rfl,rfl,hlim,cs,hH,hcl,hct⟩:=hp
  have hle:ys.length ≤ cs.length:=by have:=congrArg List.length hct; simp at this; omega
  refine ⟨.dC id g 0 i.toNat lim 1,?_,again _ rfl ⟨rfl,rfl,by simp; omega,hlim,cs,hH,hcl,?_⟩⟩
  ·
   simp only [oper,hx,vK,hh,kL,oV,he,gW,asNat,if_pos h0]
   rw [if_pos ⟨hs.symm,hu,by decide⟩,if_pos ⟨Nat.zero_le _,by omega⟩,if_neg (by omega)]
   simp
  ·
   simp only [Int.toNat_zero,List.drop_zero,List.map_take]
   rw [← hct,List.take_take,Nat.min_eq_left (by omega)]
 ·
  exact hp.elim
theorem BL.Ld {q:Nat} (H:Has B S l) (hi:l[q]? = some (aG w ys)):BL R S w (.sl (ys.map (D.int .i64)) false):=by
 intro cx ww u h1 h2
 have hp:=fE.1 (H.at hi)
 unfold ic at hp
 split at hp
 ·
  subst hp; exact (IB _ _ _ _ h2).dd.Gl
 ·
  rename_i id g off len lim sz'
  obtain ⟨rfl,rfl,rfl,hlim,cs,hH,hcl,hct⟩:=hp
  have e:ys.length=(ys.map (D.int .i64)).length:=by simp
  rw [e] at h2
  refine D9 h1 (cs0:=cs) (sz:=1) (fun i j x c hx hc hj=>?_) hH (by decide) (fun x hx=>?_) (fun b o v q1 q2=>⟨q2,fun q=>q⟩) (fun o q=>q) h2
  ·
   rw [List.getElem?_map,Option.map_eq_some_iff] at hx
   obtain ⟨n,hn,rfl⟩:=hx
   have hj0:j=0:=by omega
   subst hj0
   have hc:D.int .i64 n=c:=by simpa [D.cells] using hc
   subst hc
   refine ⟨iA n,?_,.refl _⟩
   have hlt:=(List.getElem?_eq_some_iff.1 hn).1
   have:(cs.take ys.length)[i]? = some (iA n):=by rw [hct,List.getElem?_map,hn]; rfl
   rw [List.getElem?_take_of_lt hlt] at this
   simpa using this
  ·
   obtain ⟨n,hn,rfl⟩:=List.mem_map.1 hx
   exact ⟨rfl,rfl⟩
 ·
  exact hp.elim
end
end
end
end
end Go.Ev

namespace Go.Ev
noncomputable section
set_option linter.unusedVariables false
set_option linter.unusedSimpArgs false
variable {R:bK} {P:Program} {B:St}
section steps
variable {C:fB} {nt:Nat} {ops:Array Oper} {rest:List Oper} {e:Env} {S:St} {Q:Stp→Prop} {l:List bA} {t ty:Nat} {p:String} {af:Array Edge} {g:Option (Nat × Bool)} {x y:Operand}
section
variable {α:Type} {enc:α→D} {kid:α→List Int} {sz k:Nat} {v:AV} {wss:List (List AV)} {xs:List α} {hole:Option Nat} {z:α} {n:Int} {tt:Nat}
theorem ai.jq {q off:Nat} {d:D} (H:Has B S l) (hw:bL ops e { dst:=some t,op:=.load tt x,type:=ty,pos:=p,after:=af,guard:=g }=some true) (hi:l[q]? = some (ay enc kid sz k v wss xs hole)) (hz:idx xs n=some z) (h:bI e x=some (bq v n.toNat off)) (ha:dQ C.P tt=some false) (hk:Nat.beq k off=false) (hd:(enc z).cells[off]? = some d) (ht:Nat.blt t nt=true)
  (kk:ai R C nt ops rest ((t,.d d) :: e) S Q) :
  ai R C nt ops ({ dst:=some t,op:=.load tt x,type:=ty,pos:=p,after:=af,guard:=g } :: rest) e S Q:=by
 obtain ⟨w,h1,h2⟩:=xm (C:=C) (ρ:=bI e) H hi hz h ha hk hd
 exact ai.val hw h1 ht (ai.less h2 kk)
theorem ai.yU {q:Nat} {cs:List AV} (H:Has B S l) (hw:bL ops e { dst:=some t,op:=.load tt x,type:=ty,pos:=p,after:=af,guard:=g }=some true) (hi:l[q]? = some (ay enc kid sz k v wss xs none)) (hz:idx xs n=some z) (h:bI e x=some (bq v n.toNat 0)) (ha:dQ C.P tt=some true) (hs:aJ C.P tt=sz) (hc:((enc z).cells.map AV.d).set k (gU k wss n.toNat)=cs) (ht:Nat.blt t nt=true)
  (kk:ai R C nt ops rest ((t,Ev.eY cs) :: e) S Q) :
  ai R C nt ops ({ dst:=some t,op:=.load tt x,type:=ty,pos:=p,after:=af,guard:=g } :: rest) e S Q:=by
 subst hc
 obtain ⟨w,h1,h2⟩:=wG (C:=C) (ρ:=bI e) H hi hz h ha hs
 exact ai.val hw h1 ht (ai.less h2 kk)
theorem ai.oz {m el:Nat} {ps:Array (Nat × Operand)} {zd:D} {vs:List AV} {cs:List (List AV)} (H:Has B S l) (hw:bL ops e { dst:=some t,op:=.buildSlice tt m ps,type:=ty,pos:=p,after:=af,guard:=g }=some true) (hr:C.rowT tt=true) (he:bf C.P tt=some el) (ha:(dQ C.P el).isSome=true) (hz:zeroOf C.P el=some zd) (hs:aJ C.P el=sz) (hzl:zd.cells.length=sz) (hb:m * sz ≤ 16777216∧0 < m * sz)
  (hv:qb sz vs cs) (hn:vs.length=m) (hev:nV (bI e) ps=some (rC 0 vs)) (ht:Nat.blt t nt=true)
  (kk:∀ v S',Has B S' (fD sz m v cs.flatten :: l)→ai R C nt ops rest ((t,v) :: e) S' Q) :
  ai R C nt ops ({ dst:=some t,op:=.buildSlice tt m ps,type:=ty,pos:=p,after:=af,guard:=g } :: rest) e S Q:=by
 obtain ⟨v',S',h1,h2⟩:=yj (C:=C) (ρ:=bI e) H hr he ha hz hs hzl hb hv hn hev
 exact ai.val hw h1 ht (kk v' S' h2)
theorem ai.Cm {t1 u el nb:Nat} {r:List α} {rv:AV} {c:List AV} (H:Has B S (fD sz 1 rv c :: ay enc kid sz k v wss xs none :: l)) (hw:bL ops e { dst:=some t,op:=.call { callee:=.builtin .append,args:=#[x,y],argTypes:=#[t1,u] },type:=ty,pos:=p,after:=af,guard:=g }=some true)
  (hx:bI e x=some v) (hy:bI e y=some rv) (hnr:C.rowT t1=true) (hu:ik C u=true) (he:bf C.P t1=some el) (hs:aJ C.P el=sz)
  (hr:Ev.app nb xs [z]=some r) (hnb:bytesOf C.P el=nb) (h0:(Nat.blt 0 nb && Nat.ble nb 65536)=true) (hz:eu C el=true) (hnode:kU sz k (enc z) c) (hkw:iX k c=.d .aT) (hkid:kid z=[]) (ht:Nat.blt t nt=true)
  (kk:∀ v' wss' S',Has B S' (ay enc kid sz k v' wss' r none :: l)→ai R C nt ops rest ((t,v') :: e) S' Q) :
  ai R C nt ops ({ dst:=some t,op:=.call { callee:=.builtin .append,args:=#[x,y],argTypes:=#[t1,u] },type:=ty,pos:=p,after:=af,guard:=g } :: rest) e S Q:=by
 obtain ⟨v',S',h1,wss',h2⟩:=vU (C:=C) (ρ:=bI e) H hx hy hnr hu he hs hr hnb h0 hz hnode hkw hkid
 exact ai.val hw h1 ht (kk v' wss' S' h2)
end
section
variable {w:AV} {ys r:List Int} {n:Int} {tt:Nat}
theorem ai.yD {t1 u el nb:Nat} {rv:AV} (H:Has B S (fD 1 1 rv [iA n] :: aG w ys :: l)) (hw:bL ops e { dst:=some t,op:=.call { callee:=.builtin .append,args:=#[x,y],argTypes:=#[t1,u] },type:=ty,pos:=p,after:=af,guard:=g }=some true)
  (hx:bI e x=some w) (hy:bI e y=some rv) (hnr:C.rowT t1=true) (hu:ik C u=true) (he:bf C.P t1=some el) (hs:aJ C.P el=1)
  (hr:Ev.app nb ys [n]=some r) (hnb:bytesOf C.P el=nb) (h0:(Nat.blt 0 nb && Nat.ble nb 65536)=true) (hz:eu C el=true) (ht:Nat.blt t nt=true)
  (kk:∀ w' S',Has B S' (aG w' r :: l)→ai R C nt ops rest ((t,w') :: e) S' Q) :
  ai R C nt ops ({ dst:=some t,op:=.call { callee:=.builtin .append,args:=#[x,y],argTypes:=#[t1,u] },type:=ty,pos:=p,after:=af,guard:=g } :: rest) e S Q:=by
 obtain ⟨v',S',h1,h2⟩:=wN (C:=C) (ρ:=bI e) H hx hy hnr hu he hs hr hnb h0 hz
 exact ai.val hw h1 ht (kk v' S' h2)
theorem ai.IG {el:Nat} {i:Int} {kk:IntKind} {hi:Operand} (H:Has B S (aG w ys :: l)) (hw:bL ops e { dst:=some t,op:=.slice tt x none (some hi) none,type:=ty,pos:=p,after:=af,guard:=g }=some true) (hx:bI e x=some w) (hh:bI e hi=some (.d (.int kk i))) (he:bf C.P tt=some el) (hu:(C.P.underlying el).isSome=true) (hs:aJ C.P el=1) (hc:cut ys 0 i=some r) (ht:Nat.blt t nt=true)
  (k:∀ w',Has B S (aG w' r :: l)→ai R C nt ops rest ((t,w') :: e) S Q) :
  ai R C nt ops ({ dst:=some t,op:=.slice tt x none (some hi) none,type:=ty,pos:=p,after:=af,guard:=g } :: rest) e S Q:=by
 obtain ⟨v',h1,h2⟩:=BD (C:=C) (ρ:=bI e) H hx hh he hu hs hc
 exact ai.val hw h1 ht (k v' h2)
end
end steps
def EF (ys:List Int) (i c:Int):Option (List Int):=if 0 ≤ i∧i.toNat ≤ ys.length∧(ys.length + 1) * 8 ≤ 140737488355328 then some (ys.take i.toNat ++ c :: ys.drop i.toNat) else none
theorem cK.ins {f:Nat} (h:zP R P f lK) {w rv:AV} {ys r:List Int} {i c:Int} (hr:EF ys i c=some r):cK R P f [w,.d (.int .i64 i),rv] [fD 1 1 rv [iA c],aG w ys] (fun v l=>l=[aG v r]):=by
 intro B S H
 unfold EF at hr
 split at hr
 rotate_left 1
 ·
  cases hr
 rename_i hc
 cases hr
 obtain ⟨h0,h1,h2⟩:=hc
 have hp:=fE.1 (H.ok (aG w ys) (by simp))
 obtain ⟨id2,g2,rfl,hH2,hl2⟩:=uC.1 (H.ok (fD 1 1 rv [iA c]) (by simp))
 have H2:Has B S ([fD 1 1 (.dC id2 g2 0 1 1 1) [iA c],aG w ys] ++ []):=by simpa using H
 have e2:gN [fD 1 1 (.dC id2 g2 0 1 1 1) [iA c],aG w ys]=id2 :: aP w:=by simp [gN,aG,fD,bA.fp,aP]
 have hnd:=Has.nd0 H2
 rw [e2,List.nodup_cons] at hnd
 have finish:∀ (w':AV) (id g:Nat) (cs:List AV) (S':St),lK [w,.d (.int .i64 i),.dC id2 g2 0 1 1 1] S=some (w',S')→w'=.dC id g 0 (ys.length + 1) (ys.length + 1) 1→cs=(ys.take i.toNat ++ c :: ys.drop i.toNat).map iA→S'.H.get id=some (.cells g cs)→(∀ j,j ≠ id→S'.H.get j=S.H.get j)→S'.T=S.T→S'.Wf→S.nx ≤ S'.nx→(id ∈ aP w∨S.nx ≤ id) →
   gZ R P f [w,.d (.int .i64 i),.dC id2 g2 0 1 1 1] S (fun o=>o.1=none∧∃ v l,Less v o.2.1∧l=[aG v (ys.take i.toNat ++ c :: ys.drop i.toNat)]∧Has B o.2.2 l):=fun w' id g cs S' hprim hv hcs hH hsame hT wf nx hin=>by
  subst hv
  refine (gZ.Gp h hprim).mono (fun o ho=>?_)
  subst ho
  refine ⟨rfl,_,_,.refl _,rfl,?_⟩
  have:=Has.upd (bs:=[aG (.dC id g 0 (ys.length + 1) (ys.length + 1) 1) (ys.take i.toNat ++ c :: ys.drop i.toNat)]) H2 wf nx (fun j hj hlt=>⟨hsame j (fun q=>?_),by rw [hT]⟩) (fun a ha=>?_) (by simp [gN,aG,bA.fp,aP]) (fun j hj=>?_)
  ·
   simpa using this
  ·
   subst q
   rcases hin with h | h
   ·
    exact hj (by rw [e2]; exact List.mem_cons_of_mem _ h)
   ·
    omega
  ·
   simp only [List.mem_cons,List.not_mem_nil,or_false] at ha
   subst ha
   have hl:(ys.take i.toNat ++ c :: ys.drop i.toNat).length=ys.length + 1:=by simp; omega
   refine fE.2 ⟨rfl,rfl,hl.symm,by omega,cs,hH,by rw [hcs,List.length_map,hl],?_⟩
   rw [hcs,List.take_of_length_le (by rw [List.length_map,hl]; omega)]
  ·
   have:j=id:=by simpa [gN,aG,bA.fp,aP] using hj
   subst this
   rcases hin with h | h
   ·
    exact .inl (by rw [e2]; exact List.mem_cons_of_mem _ h)
   ·
    exact .inr h
 unfold ic at hp
 split at hp
 ·
  subst hp
  have hi0:i=0:=by simp at h1; omega
  subst hi0
  refine finish _ S.nx 0 [iA c] { S with H:=S.H.set S.nx (.cells 0 [iA c]),nx:=S.nx + 1 } ?_ rfl rfl (by simp [AL.aO]) (fun j hj=>by simp only [AL.aO]; rw [if_neg (Ne.symm hj)]) rfl (zV H.wf _) (Nat.le_succ _) (.inr (Nat.le_refl _))
  simp only [lK,St.look,hH2,Nat.beq_refl,cond_true]
  rw [if_pos ⟨trivial,trivial,trivial,by decide,by simp,by decide⟩]
  rfl
 ·
  rename_i id g off len lim sz'
  obtain ⟨rfl,rfl,rfl,hlim,cs,hH,hcl,hct⟩:=hp
  have hle:ys.length ≤ cs.length:=by have:=congrArg List.length hct; simp at this; omega
  have hne:id2 ≠ id:=fun q=>hnd.1 (by subst q; simp [aP])
  have hlt:id < S.nx:=Has.lt H (iI.2 ⟨aG (.dC id g 0 ys.length lim 1) ys,by simp,by simp [aG,bA.fp,aP]⟩)
  refine finish _ id (g + 1) ((cs.take ys.length).take i.toNat ++ ([iA c].drop 0).take 1 ++ (cs.take ys.length).drop i.toNat) { S with H:=S.H.set id (.cells (g + 1) ((cs.take ys.length).take i.toNat ++ ([iA c].drop 0).take 1 ++ (cs.take ys.length).drop i.toNat)) } ?_ rfl ?_ (by simp only [AL.aO,if_true]) (fun j hj=>by simp only [AL.aO]; rw [if_neg (Ne.symm hj)]) rfl (wf_set H.wf hlt _) (Nat.le_refl _) (.inl (by simp [aP]))
  ·
   simp only [lK,St.look,hH,hH2,Nat.beq_refl,cond_true]
   rw [if_pos ⟨trivial,trivial,trivial,trivial,hne,h0,h1,hle,by decide,by simp,h2⟩]
  ·
   rw [hct]
   simp
 ·
  exact hp.elim
def kC (w:AV) (i:Nat):AV:=match w with
 | .dC id g off len lim sz=>.dC id g off i lim sz
 | x=>x
def lQ (w:AV) (j:Nat):AV:=match w with
 | .dC id g off len lim sz=>if j=lim then .d (.sl [] false) else .dC id g (off + j * sz) (len - j) (lim - j) sz
 | x=>x
def rM (w:AV) (i j:Nat):AV:=match w with
 | .dC id g off len lim sz=>if i=lim then .d (.sl [] false) else .dC id g (off + i * sz) (j - i) (lim - i) sz
 | x=>x
def Dm (w:AV) (n m:Nat):Prop:=∃ id g lim,w=.dC id g 0 n lim 1∧n ≤ m∧m ≤ lim
def En (ys:List Int) (i j:Int):Option (List Int):=if 0 ≤ i∧i < j∧j ≤ ys.length then some (ys.take i.toNat ++ ys.drop j.toNat) else none
section
variable {C:fB} {ρ:Operand→Option AV} {S:St} {l:List bA} {x lo hi mx:Operand} {t el q:Nat} {w:AV} {ys:List Int} {i j:Int} {k1 k2 k3:IntKind}
theorem ic.dC {n:Int} (h:ic w ys S) (hn:0 < ys.length):∃ id g lim cs,w=.dC id g 0 ys.length lim 1∧0 < lim∧S.H.get id=some (.cells g cs)∧cs.length=lim∧cs.take ys.length=ys.map iA∧ys.length ≤ lim:=by
 unfold ic at h
 split at h
 ·
  subst h; simp at hn
 ·
  obtain ⟨rfl,rfl,rfl,h4,cs,h5,h6,h7⟩:=h
  exact ⟨_,_,_,cs,rfl,h4,h5,h6,h7,by have:=congrArg List.length h7; simp at this; omega⟩
 ·
  exact h.elim
theorem Cy (H:Has B S l) (hq:l[q]? = some (aG w ys)) (hx:ρ x=some w) (hh:ρ hi=some (.d (.int k1 i))) (he:bf C.P t=some el) (hu:(C.P.underlying el).isSome=true) (hs:aJ C.P el=1) (hb:0 ≤ i∧i < j∧j ≤ ys.length) :
  oper C ρ S (.slice t x none (some hi) none)=some (.val (kC w i.toNat) S):=by
 obtain ⟨id,g,lim,cs,rfl,h1,h2,h3,h4,h5⟩:=(fE.1 (H.at hq)).dC (n:=0) (by omega)
 simp only [oper,hx,vK,hh,kL,oV,he,gW,asNat,if_pos hb.1]
 rw [if_pos ⟨hs.symm,hu,by decide⟩,if_pos ⟨Nat.zero_le _,by omega⟩,if_neg (by omega)]
 simp [kC]
theorem zh (H:Has B S l) (hq:l[q]? = some (aG w ys)) (hx:ρ x=some w) (hh:ρ lo=some (.d (.int k1 j))) (he:bf C.P t=some el) (hu:(C.P.underlying el).isSome=true) (hs:aJ C.P el=1) (hb:0 ≤ i∧i < j∧j ≤ ys.length) :
  oper C ρ S (.slice t x (some lo) none none)=some (.val (lQ w j.toNat) S):=by
 obtain ⟨id,g,lim,cs,rfl,h1,h2,h3,h4,h5⟩:=(fE.1 (H.at hq)).dC (n:=0) (by omega)
 simp only [oper,hx,vK,hh,kL,oV,he,gW,asNat,if_pos (show (0:Int) ≤ j by omega)]
 rw [if_pos ⟨hs.symm,hu,by decide⟩,if_pos ⟨by omega,by omega⟩]
 simp only [lQ,Option.map_some]
 split <;> rfl
theorem DX (H:Has B S l) (hq:l[q]? = some (aG w ys)) (hx:ρ x=some w) (hl:ρ lo=some (.d (.int k1 i))) (hh:ρ hi=some (.d (.int k2 j))) (hm:ρ mx=some (.d (.int k3 (ys.length:Int)))) (he:bf C.P t=some el) (hu:(C.P.underlying el).isSome=true) (hs:aJ C.P el=1) (hb:0 ≤ i∧i < j∧j ≤ ys.length) :
  oper C ρ S (.slice t x (some lo) (some hi) (some mx))=some (.val .any S):=by
 obtain ⟨id,g,lim,cs,rfl,h1,h2,h3,h4,h5⟩:=(fE.1 (H.at hq)).dC (n:=0) (by omega)
 simp only [oper,hx,vK,hl,hh,hm,kL,oV,he,gW,asNat,if_pos hb.1,if_pos (show (0:Int) ≤ j by omega),if_pos (show (0:Int) ≤ (ys.length:Int) by omega)]
 rw [if_pos ⟨hs.symm,hu,by decide⟩]
 show (Option.map _ (if _ then _ else _))=_
 rw [if_pos ⟨rfl,by omega,by omega,by simpa using h5⟩,if_neg (by omega)]
 rfl
theorem BJ (H:Has B S l) (hq:l[q]? = some (aG w ys)) (hx:ρ x=some w) (hl:ρ lo=some (.d (.int k1 (ys.length:Int)))) (hh:ρ hi=some (.d (.int k2 j))) (he:bf C.P t=some el) (hu:(C.P.underlying el).isSome=true) (hs:aJ C.P el=1) (h0:0 ≤ j) (hb:Dm w ys.length j.toNat) :
  oper C ρ S (.slice t x (some lo) (some hi) none)=some (.val (rM w ys.length j.toNat) S):=by
 obtain ⟨id,g,lim,rfl,h1,h2⟩:=hb
 simp only [oper,hx,vK,hl,hh,kL,oV,he,gW,asNat,if_pos h0,if_pos (show (0:Int) ≤ (ys.length:Int) by omega)]
 rw [if_pos ⟨hs.symm,hu,by decide⟩]
 simp only [Int.toNat_natCast]
 rw [if_pos ⟨by omega,h2⟩]
 simp only [rM,Option.map_some]
 split <;> rfl
end
section
variable {C:fB} {nt:Nat} {ops:Array Oper} {rest:List Oper} {e:Env} {S:St} {Q:Stp→Prop} {l:List bA} {t ty:Nat} {p:String} {af:Array Edge} {g:Option (Nat × Bool)} {x y:Operand} {w:AV} {ys r:List Int} {i j:Int}
theorem ai.Ho {t1 u el:Nat} (H:Has B S (aG w ys :: l)) (hw:bL ops e { dst:=some t,op:=.call { callee:=.builtin .append,args:=#[x,y],argTypes:=#[t1,u] },type:=ty,pos:=p,after:=af,guard:=g }=some true)
  (hx:bI e x=some (kC w i.toNat)) (hy:bI e y=some (lQ w j.toNat)) (hu:ik C u=true) (he:bf C.P t1=some el) (hs:aJ C.P el=1) (hr:En ys i j=some r) (ht:Nat.blt t nt=true)
  (k:∀ S',Has B S' (aG (kC w r.length) r :: l)→Dm (kC w r.length) r.length ys.length→ai R C nt ops rest ((t,kC w r.length) :: e) S' Q) :
  ai R C nt ops ({ dst:=some t,op:=.call { callee:=.builtin .append,args:=#[x,y],argTypes:=#[t1,u] },type:=ty,pos:=p,after:=af,guard:=g } :: rest) e S Q:=by
 unfold En at hr
 split at hr
 rotate_left 1
 ·
  cases hr
 rename_i hb
 cases hr
 obtain ⟨b0,b1,b2⟩:=hb
 obtain ⟨id,gg,lim,cs,rfl,h1,h2,h3,h4,h5⟩:=(fE.1 (H.ok _ List.mem_cons_self)).dC (n:=0) (by omega)
 have hlen:(ys.take i.toNat ++ ys.drop j.toNat).length=i.toNat + (ys.length - j.toNat):=by simp; omega
 have hlt:id < S.nx:=Has.lt H (iI.2 ⟨aG (.dC id gg 0 ys.length lim 1) ys,by simp,by simp [aG,bA.fp,aP]⟩)
 have hm:fU (bI e) [x,y]=some [.dC id gg 0 i.toNat lim 1,lQ (.dC id gg 0 ys.length lim 1) j.toNat]:=by simp only [fU,hx,hy,Option.map_some,kC]
 have hfact:Dm (kC (.dC id gg 0 ys.length lim 1) (ys.take i.toNat ++ ys.drop j.toNat).length) (ys.take i.toNat ++ ys.drop j.toNat).length ys.length:=⟨id,gg,lim,rfl,by omega,h5⟩
 have hop:∃ S' cs',oper C (bI e) S (.call { callee:=.builtin .append,args:=#[x,y],argTypes:=#[t1,u] })=some (.val (.dC id gg 0 (i.toNat + (ys.length - j.toNat)) lim 1) S')∧S'.H.get id=some (.cells gg cs')∧(∀ j,j ≠ id→S'.H.get j=S.H.get j)∧S'.T=S.T∧S'.Wf∧S'.nx=S.nx∧cs'.length=lim∧cs'.take (i.toNat + (ys.length - j.toNat))=(ys.take i.toNat ++ ys.drop j.toNat).map iA:=by
  have htk:cs.take i.toNat=(ys.take i.toNat).map iA:=by
   rw [List.map_take,← h4,List.take_take,Nat.min_eq_left (by omega)]
  have hzero:∀ S2:St,S2.H.get id=some (.cells gg cs)→ys.length=j.toNat→cs.take (i.toNat + (ys.length - j.toNat))=(ys.take i.toNat ++ ys.drop j.toNat).map iA:=fun S2 _ hjl=>by
   rw [show i.toNat + (ys.length - j.toNat)=i.toNat by omega,htk,List.drop_of_length_le (by omega),List.append_nil]
  by_cases hj:j.toNat=lim
  ·
   have hjl:ys.length=j.toNat:=by omega
   refine ⟨S,cs,?_,h2,fun _ _=>rfl,rfl,H.wf,rfl,h3,hzero S h2 hjl⟩
   simp only [oper,hm,dU,List.getElem?_toArray,List.getElem?_cons_zero,List.getElem?_cons_succ,hu,if_true,he,lQ,if_pos hj]
   simp only [iP,iL,nz,mE,sizes,if_true,List.map_nil,List.flatten_nil,List.length_nil,St.look,h2,Nat.beq_refl,cond_true]
   rw [if_pos ⟨hs.symm,by decide,by omega⟩]
   rw [show i.toNat + (ys.length - j.toNat)=i.toNat by omega]
   rfl
  ·
   have hfrom:lQ (.dC id gg 0 ys.length lim 1) j.toNat=.dC id gg (0 + j.toNat * 1) (ys.length - j.toNat) (lim - j.toNat) 1:=by simp only [lQ,if_neg hj]
   rw [hfrom] at hm
   have hsrc:iL S 1 (.dC id gg (0 + j.toNat * 1) (ys.length - j.toNat) (lim - j.toNat) 1)=some ((cs.drop (0 + j.toNat * 1)).take ((ys.length - j.toNat) * 1),ys.length - j.toNat):=by
    simp only [iL,nz,St.look,h2,Nat.beq_refl,cond_true]
    rw [if_pos ⟨trivial,by decide,by omega⟩]
   by_cases hn:ys.length - j.toNat=0
   ·
    have hjl:ys.length=j.toNat:=by omega
    refine ⟨S,cs,?_,h2,fun _ _=>rfl,rfl,H.wf,rfl,h3,hzero S h2 hjl⟩
    simp only [oper,hm,dU,List.getElem?_toArray,List.getElem?_cons_zero,List.getElem?_cons_succ,hu,if_true,he]
    simp only [iP,hsrc,St.look,h2,Nat.beq_refl,cond_true]
    rw [if_pos ⟨hs.symm,by decide,by omega⟩,if_pos hn]
    rw [show i.toNat + (ys.length - j.toNat)=i.toNat by omega]
    rfl
   ·
    refine ⟨{ S with H:=S.H.set id (.cells gg (setAt cs i.toNat ((cs.drop j.toNat).take (ys.length - j.toNat)))) },setAt cs i.toNat ((cs.drop j.toNat).take (ys.length - j.toNat)),?_,by simp only [AL.aO,if_true],fun j hj=>by simp only [AL.aO]; rw [if_neg (Ne.symm hj)],rfl,wf_set H.wf hlt _,rfl,by rw [bR,h3],?_⟩
    ·
     simp only [oper,hm,dU,List.getElem?_toArray,List.getElem?_cons_zero,List.getElem?_cons_succ,hu,if_true,he]
     simp only [iP,hsrc,St.look,h2,Nat.beq_refl,cond_true]
     rw [if_pos ⟨hs.symm,by decide,by omega⟩,if_neg hn,if_pos (by omega)]
     simp only [Option.map_some,Nat.zero_add,Nat.mul_one]
     rw [show max lim (i.toNat + (ys.length - j.toNat))=lim by omega]
    ·
     have hsl:((cs.drop j.toNat).take (ys.length - j.toNat)).length=ys.length - j.toNat:=by simp; omega
     have hsplit:setAt cs i.toNat ((cs.drop j.toNat).take (ys.length - j.toNat))=cs.take i.toNat ++ (cs.drop j.toNat).take (ys.length - j.toNat) ++ cs.drop (i.toNat + (ys.length - j.toNat)):=by
      have e0:cs=cs.take i.toNat ++ (cs.drop i.toNat).take (ys.length - j.toNat) ++ cs.drop (i.toNat + (ys.length - j.toNat)):=by
       rw [List.append_assoc,← List.drop_drop,List.take_append_drop,List.take_append_drop]
      have hl1:(cs.take i.toNat).length=i.toNat:=by simp; omega
      have:=nR ((cs.drop j.toNat).take (ys.length - j.toNat)) (cs.take i.toNat) ((cs.drop i.toNat).take (ys.length - j.toNat)) (cs.drop (i.toNat + (ys.length - j.toNat))) (by rw [hsl]; simp; omega)
      rw [hl1,← e0] at this
      exact this
     rw [hsplit,List.take_append_of_le_length (by simp; omega),List.take_of_length_le (by simp; omega),htk]
     rw [List.map_append]
     congr 1
     rw [List.map_drop,← h4,List.drop_take]
 obtain ⟨S',cs',k1,k2,k3,k4,k5,k6,k7,k8⟩:=hop
 have hw2:kC (.dC id gg 0 ys.length lim 1) (ys.take i.toNat ++ ys.drop j.toNat).length=.dC id gg 0 (i.toNat + (ys.length - j.toNat)) lim 1:=by simp only [kC,hlen]
 refine ai.val hw (by rw [hw2]; exact k1) ht (k S' ?_ hfact)
 rw [hw2]
 refine Has.upd (l0:=[_]) (bs:=[_]) H k5 (by rw [k6]; exact Nat.le_refl _) (fun j hj hlt=>⟨k3 j (fun q=>?_),by rw [k4]⟩) (fun a ha=>?_) (by simp [gN,aG,bA.fp,aP]) (fun j hj=>.inl (by simpa [gN,aG,bA.fp,aP] using hj))
 ·
  subst q; exact hj (by simp [gN,aG,bA.fp,aP])
 ·
  simp only [List.mem_cons,List.not_mem_nil,or_false] at ha
  subst ha
  exact fE.2 ⟨rfl,rfl,hlen.symm,h1,cs',k2,k7,k8⟩
theorem ai.EA {t1 el:Nat} {zd:D} {jj:Nat} (H:Has B S (aG w ys :: l)) (hw:bL ops e { dst:=none,op:=.call { callee:=.builtin .clear,args:=#[x],argTypes:=#[t1] },type:=ty,pos:=p,after:=af,guard:=g }=some true)
  (hx:bI e x=some (rM w ys.length jj)) (he:bf C.P t1=some el) (hz:zeroOf C.P el=some zd) (hzl:zd.cells.length=1) (hb:Dm w ys.length jj)
  (k:∀ S',Has B S' (aG w ys :: l)→ai R C nt ops rest e S' Q) :
  ai R C nt ops ({ dst:=none,op:=.call { callee:=.builtin .clear,args:=#[x],argTypes:=#[t1] },type:=ty,pos:=p,after:=af,guard:=g } :: rest) e S Q:=by
 obtain ⟨id,gg,lim,rfl,b1,b2⟩:=hb
 have hp:=fE.1 (H.ok _ List.mem_cons_self)
 obtain ⟨_,_,_,hlim,cs,hH,hcl,hct⟩:=hp
 have hlt:id < S.nx:=Has.lt H (iI.2 ⟨aG (.dC id gg 0 ys.length lim 1) ys,by simp,by simp [aG,bA.fp,aP]⟩)
 have hm:fU (bI e) [x]=some [rM (.dC id gg 0 ys.length lim 1) ys.length jj]:=by simp only [fU,hx,Option.map_some]
 by_cases hl:ys.length=lim
 ·
  refine ai.Ip hw (v:=.tup []) (S':=S) ?_ (k S H)
  simp only [oper,hm,dU,List.getElem?_toArray,List.getElem?_cons_zero,he,rM,if_pos hl,qK]
 ·
  by_cases h0:jj - ys.length=0
  ·
   refine ai.Ip hw (v:=.tup []) (S':=S) ?_ (k S H)
   simp only [oper,hm,dU,List.getElem?_toArray,List.getElem?_cons_zero,he,rM,if_neg hl,qK,if_pos h0]
  ·
   refine ai.Ip hw (v:=.tup []) (S':={ S with H:=S.H.set id (.cells gg (setAt cs (0 + ys.length * 1) (((List.replicate (jj - ys.length) zd.cells).flatten).map .d))) }) ?_ (k _ ?_)
   ·
    simp only [oper,hm,dU,List.getElem?_toArray,List.getElem?_cons_zero,he,rM,if_neg hl,qK,if_neg h0,St.look,hH,Nat.beq_refl,cond_true,hz]
    rw [if_pos ⟨hzl,by decide,by omega⟩]
   ·
    refine Has.upd (l0:=[_]) (bs:=[_]) H (wf_set H.wf hlt _) (Nat.le_refl _) (fun j hj _=>⟨?_,rfl⟩) (fun a ha=>?_) (by simp [gN,aG,bA.fp,aP]) (fun j hj=>.inl (by simpa [gN,aG,bA.fp,aP] using hj))
    ·
     simp only [AL.aO]
     rw [if_neg (fun q=>hj (by subst q; simp [gN,aG,bA.fp,aP]))]
    ·
     simp only [List.mem_cons,List.not_mem_nil,or_false] at ha
     subst ha
     refine fE.2 ⟨rfl,rfl,rfl,hlim,_,by simp only [AL.aO,if_true]; rfl,by rw [bR,hcl],?_⟩
     rw [← hct]
     have hfl:((List.replicate (jj - ys.length) zd.cells).flatten.map AV.d).length=jj - ys.length:=by
      rw [List.length_map,List.length_flatten,List.map_replicate,List.sum_replicate_nat,hzl,Nat.mul_one]
     apply List.ext_getElem?
     intro m
     by_cases hmm:m < ys.length
     ·
      rw [List.getElem?_take_of_lt hmm,List.getElem?_take_of_lt hmm,dE _ _ _ _ (by rw [hfl]; omega),if_neg (by omega)]
     ·
      rw [List.getElem?_take_eq_none (by omega),List.getElem?_take_eq_none (by omega)]
end
end
end Go.Ev

namespace Go.Ev
noncomputable section
set_option linter.unusedVariables false
set_option linter.unusedSimpArgs false
variable {R:bK} {P:Program} {B:St}
section
variable {α:Type} {enc:α→D} {kid:α→List Int} {sz k:Nat} {v:AV} {wss:List (List AV)} {xs:List α} {hole:Option Nat} {z:α} {n:Int} {S:St}
variable {C:fB} {ρ:Operand→Option AV} {l:List bA} {x y:Operand} {t ty q off:Nat}
theorem uO (H:Has B S l) (hi:l[q]? = some (ay enc kid sz k v wss xs hole)) (hz:idx xs n=some z) (off:Nat):∃ id g o,bq v n.toNat off=.ptr id g o:=by
 obtain ⟨id,g,ws,a,b,h1,h2,rfl,h4,_⟩:=(eZ.1 (H.at hi)).ptr hz off
 exact ⟨_,_,_,rfl⟩
theorem bF (H:Has B S l) (hi:l[q]? = some (ay enc kid sz k v wss xs hole)) (hz:idx xs n=some z) (h:ρ x=some (bq v n.toNat off)):oper C ρ S (.nilCheck x)=some (.val (bq v n.toNat off) S):=by
 obtain ⟨id,g,o,e⟩:=uO H hi hz off
 rw [e] at h ⊢
 exact bu h
theorem jX (H:Has B S l) (hi:l[q]? = some (ay enc kid sz k v wss xs hole)) (hz:idx xs n=some z) (h:ρ x=some (bq v n.toNat off)) (hy:ρ y=some (.d .nilp)) {e:Nat} (hu:C.P.underlying t=some (.pointer e)):oper C ρ S (.binOp .eql t x y ty)=some (.val (.d (.bool false)) S):=by
 obtain ⟨id,g,o,e⟩:=uO H hi hz off
 rw [e] at h
 exact aB h hy (zZ hu)
end
section
variable {C:fB} {nt:Nat} {ops:Array Oper} {rest:List Oper} {e:Env} {S:St} {Q:Stp→Prop} {l:List bA} {t ty:Nat} {p:String} {af:Array Edge} {g:Option (Nat × Bool)} {x y:Operand} {w:AV} {ys r:List Int}
theorem ai.FO {tt ty2 el:Nat} (H:Has B S (aG w ys :: l)) (hw:bL ops e { dst:=some t,op:=.binOp .eql tt x y ty2,type:=ty,pos:=p,after:=af,guard:=g }=some true) (hx:bI e x=some w) (hy:bI e y=some (.d .aT)) (hu:C.P.underlying tt=some (.slice el)) (ht:Nat.blt t nt=true)
  (k:∀ b:Bool,(b=true→ys=[])→(b=false→w ≠ .d .aT)→ai R C nt ops rest ((t,.d (.bool b)) :: e) S Q) :
  ai R C nt ops ({ dst:=some t,op:=.binOp .eql tt x y ty2,type:=ty,pos:=p,after:=af,guard:=g } :: rest) e S Q:=by
 have hp:=fE.1 (H.ok _ List.mem_cons_self)
 unfold ic at hp
 split at hp
 ·
  refine ai.val hw (aB hx hy (r:=.bool true) ?_) ht (k true (fun _=>hp) (fun h=>by cases h))
  simp [jv,AV.eqv,jO,hu]
 ·
  refine ai.val hw (aB hx hy (r:=.bool false) ?_) ht (k false (fun h=>by cases h) (fun _=>by simp))
  simp [jv,AV.eqv,hu]
 ·
  exact hp.elim
theorem G8:∀ (r:List Int),(((r.map (D.int .i64)).map D.cells).flatten.map AV.d)=r.map iA
 | []=>rfl
 | a :: l=>by simp only [List.map_cons,List.flatten_cons,List.map_append,G8 l]; rfl
theorem ai.FQ {t1 u el nb:Nat} (H:Has B S (aG w ys :: l)) (hw:bL ops e { dst:=some t,op:=.call { callee:=.builtin .append,args:=#[x,y],argTypes:=#[t1,u] },type:=ty,pos:=p,after:=af,guard:=g }=some true)
  (hne:w ≠ .d .aT) (hx:bI e x=some (.d (.sl [] true))) (hy:bI e y=some w) (hnr:C.rowT t1=true) (hu:ik C u=true) (he:bf C.P t1=some el) (hs:aJ C.P el=1) (hr:Ev.app nb [] ys=some r) (hnb:bytesOf C.P el=nb) (h0:(Nat.blt 0 nb && Nat.ble nb 65536)=true) (hz:eu C el=true) (ht:Nat.blt t nt=true)
  (k:∀ v S',Has B S' (.row 1 v (r.map (D.int .i64)) :: aG w ys :: l)→ai R C nt ops rest ((t,v) :: e) S' Q) :
  ai R C nt ops ({ dst:=some t,op:=.call { callee:=.builtin .append,args:=#[x,y],argTypes:=#[t1,u] },type:=ty,pos:=p,after:=af,guard:=g } :: rest) e S Q:=by
 obtain ⟨hb,hr'⟩:=kW hr
 rw [List.nil_append] at hr'
 subst hr'
 have hp:=fE.1 (H.ok _ List.mem_cons_self)
 have hm:fU (bI e) [x,y]=some [.d (.sl [] true),w]:=by simp only [fU,hx,hy,Option.map_some]
 have hinfo:(C.P.info? el).isSome=true:=by
  unfold eu at hz
  cases hq:C.P.info? el with
  | none=>rw [hq] at hz; cases hz
  | some x=>rfl
 have hg:nN C el (0 + r.length)=true:=qN (by simpa using hb) hnb h0 hz
 unfold ic at hp
 split at hp
 ·
  exact (hne rfl).elim
 ·
  rename_i id gg off len lim sz'
  obtain ⟨rfl,rfl,rfl,hlim,cs,hH,hcl,hct⟩:=hp
  have hle:r.length ≤ cs.length:=by have:=congrArg List.length hct; simp at this; omega
  have hsrc:iL S 1 (.dC id gg 0 r.length lim 1)=some (cs.take r.length,r.length):=by
   simp only [iL,nz,St.look,hH,Nat.beq_refl,cond_true]
   rw [if_pos ⟨trivial,by decide,by omega⟩,List.drop_zero,Nat.mul_one]
  by_cases hn:r.length=0
  ·
   have hr0:r=[]:=List.eq_nil_of_length_eq_zero hn
   refine ai.val hw (v:=.d (.sl [] true)) (S':=S) ?_ ht (k _ _ (by subst hr0; exact H.Iq 1))
   simp only [oper,hm,dU,List.getElem?_toArray,List.getElem?_cons_zero,List.getElem?_cons_succ,hu,if_true,he,hnr,cond_true,gB,hs,hsrc]
   rw [if_pos hn,if_pos hinfo]
   rfl
  ·
   refine ai.val hw (v:=.dC S.nx 0 0 r.length r.length 1) (S':=bN S (.cells 0 (r.map iA))) ?_ ht (k _ _ (H.new (.cells 0 (r.map iA)) (a:=.row 1 (.dC S.nx 0 0 r.length r.length 1) (r.map (D.int .i64))) rfl ⟨rfl,by simp,by simp,rfl,by decide,fun z hz=>?_,r.map iA,?_,by simp only [bN,AL.aO,if_true]⟩))
   ·
    simp only [oper,hm,dU,List.getElem?_toArray,List.getElem?_cons_zero,List.getElem?_cons_succ,hu,if_true,he,hnr,cond_true,gB,hs,hsrc]
    rw [if_neg hn,if_pos ⟨hn,by decide,rfl,by simpa using hg⟩,hct]
    simp [bN]
   ·
    obtain ⟨n,hn,rfl⟩:=List.mem_map.1 hz
    exact ⟨rfl,rfl⟩
   ·
    rw [G8]; exact .refl _
 ·
  exact hp.elim
end
end
end Go.Ev
namespace Go.Ev
theorem BR {ys r:List Int} {i j:Int} (h:En ys i j=some r):0 ≤ i∧i < j∧j ≤ ys.length:=by
 unfold En at h
 split at h
 ·
  assumption
 ·
  cases h
theorem xP {B S:St} {α:Type} {enc:α→D} {kid:α→List Int} {sz k:Nat} {v:AV} {wss:List (List AV)} {xs:List α} {hole:Option Nat} {l:List bA} {i:Nat} (H:Has B S l) (hi:l[i]? = some (ay enc kid sz k v wss xs hole)):v.plain=true∧v.cells=[v]:=by
 have h:=(eZ.1 (H.at hi)).2.2.2
 revert h
 split
 ·
  exact fun _=>⟨rfl,rfl⟩
 ·
  exact fun _=>⟨rfl,rfl⟩
 ·
  exact fun q=>q.elim
end Go.Ev
namespace Go.Ev
theorem u7 {B S:St} {C:fB} {fn:Func} {e:Env} {l:List bA} (H:Has B S l) {a t i id u:Nat} {cs:List AV} {v y:AV} (hf:fn.results = #[.cell a t,.tmp u]) (ha:AL.get e a=some (.ptr id 0 0)) (hi:l[i]? = some (.box id cs)) (hp:part C.P t cs 0=some v) (hu:AL.get e u=some y):kQ C fn e S=some (.tup [v,y]):=by
 have hb:S.H.get id=some (.cells 0 cs):=H.at hi
 simp only [kQ,hf,fU,wX,ha,kF,St.look,hb,Nat.beq_refl,cond_true,hp,hu,Option.map_some]
theorem Less.Je {a a' b b':AV} (h:Less a a') (k:Less b b'):Less (.tup [a,b]) (.tup [a',b']):=fun cx S w v hr=>by
 cases hr with
 | tup _ vs hl hh =>
  refine .tup _ vs hl (fun i x u hx hu=>?_)
  match i with
  | 0=>simp at hx; subst hx; exact h _ _ _ _ (hh 0 _ u rfl hu)
  | 1=>simp at hx; subst hx; exact k _ _ _ _ (hh 1 _ u rfl hu)
  | n + 2=>simp at hx
end Go.Ev
namespace Go.Ev
end Go.Ev

namespace Go.Ev
noncomputable section
set_option linter.unusedVariables false
set_option linter.unusedSimpArgs false
set_option linter.unusedSectionVars false
variable {R:bK} {P:Program} {B:St}
section
variable {κ:Type} [BEq κ] [LawfulBEq κ]
def BK (ek:κ→D):Nat→List (κ × List Int)→List AV→List (D × AV × Nat)
 | i,(k,_) :: l,w :: ws=>(ek k,w,i) :: BK ek (i + 1) l ws
 | _,_,_=>[]
def uU (w:AV) (ys:List Int) (S:St):Prop:=match w with
 | .d .aT=>ys=[]
 | .d (.sl [] _)=>ys=[]
 | .dC id g off len lim sz=>sz=1∧len=ys.length∧len ≤ lim∧∃ cs,S.H.get id=some (.cells g cs)∧(cs.drop off).take len=ys.map iA
 | _=>False
theorem ic.rd {w:AV} {ys:List Int} {S:St} (h:ic w ys S):uU w ys S:=by
 unfold ic at h
 split at h
 ·
  exact h
 ·
  obtain ⟨rfl,rfl,rfl,h4,cs,h5,h6,h7⟩:=h
  exact ⟨rfl,rfl,by have:=congrArg List.length h7; simp at this; omega,cs,h5,by simpa using h7⟩
 ·
  exact h.elim
theorem uU.keep {w:AV} {ys:List Int} {S S':St} (h:uU w ys S) (k:∀ id ∈ aP w,S'.H.get id=S.H.get id):uU w ys S':=by
 unfold uU at *
 split at h
 ·
  exact h
 ·
  exact h
 ·
  obtain ⟨h1,h2,h3,cs,h4,h5⟩:=h
  exact ⟨h1,h2,h3,cs,by rw [k _ (by simp [aP])]; exact h4,h5⟩
 ·
  exact h.elim
theorem uU.live {w:AV} {ys:List Int} {S:St} (h:uU w ys S):∀ id ∈ aP w,∃ b,S.H.get id=some b:=by
 unfold uU at h
 split at h
 ·
  intro id hid; simp [aP] at hid
 ·
  intro id hid; simp [aP] at hid
 ·
  obtain ⟨h1,h2,h3,cs,h4,h5⟩:=h
  intro id hid
  simp only [aP,List.mem_singleton] at hid
  subst hid; exact ⟨_,h4⟩
 ·
  exact h.elim
theorem uU.plain {w:AV} {ys:List Int} {S:St} (h:uU w ys S):w.plain=true:=by
 unfold uU at h
 split at h <;> first | rfl | exact h.elim
def vP (gr:Bool) (w:AV) (ys:List Int) (S:St):Prop:=if gr=true then ic w ys S else uU w ys S
theorem vP.rd {gr:Bool} {w:AV} {ys:List Int} {S:St} (h:vP gr w ys S):uU w ys S:=by
 unfold vP at h; split at h
 ·
  exact h.rd
 ·
  exact h
theorem vP.keep {gr:Bool} {w:AV} {ys:List Int} {S S':St} (h:vP gr w ys S) (k:∀ id ∈ aP w,S'.H.get id=S.H.get id):vP gr w ys S':=by
 unfold vP at *; split at h
 ·
  rename_i e; rw [if_pos e]; exact h.keep k
 ·
  rename_i e; rw [if_neg e]; exact h.keep k
def iB (hole:Option Nat) (ws:List AV):List Nat:=bG 0 hole (ws.map ([·]))
theorem lU {hole:Option Nat} {ws:List AV} {id:Nat}:id ∈ iB hole ws↔∃ i w,ws[i]? = some w∧hole ≠ some i∧id ∈ aP w:=by
 unfold iB
 rw [iF]
 constructor
 ·
  rintro ⟨i,q,h1,h2,h3⟩
  rw [List.getElem?_map,Option.map_eq_some_iff] at h1
  obtain ⟨w,h4,rfl⟩:=h1
  exact ⟨i,w,h4,h2,h3⟩
 ·
  rintro ⟨i,w,h1,h2,h3⟩
  exact ⟨i,[w],by rw [List.getElem?_map,h1]; rfl,h2,h3⟩
theorem oP {ws:List AV} {n:Nat} {w:AV} (h:ws[n]? = some w):(iB none ws).Perm (aP w ++ iB (some n) ws) :=
 jM (k:=0) (wss:=ws.map ([·])) (n:=n) (ws:=[w]) (by rw [List.getElem?_map,h]; rfl)
theorem Dx {ws:List AV} {n:Nat} {w:AV}:iB (some n) (ws.set n w)=iB (some n) ws:=by
 unfold iB; rw [List.map_set,rJ]
theorem DY (ws:List AV) (w:AV):iB none (ws ++ [w])=iB none ws ++ aP w:=by
 unfold iB; rw [List.map_append]; exact rW [w] _
def GV (ek:κ→D) (b:Nat) (kvs:List (κ × List Int)) (ws:List AV) (gr:Bool) (hole:Option Nat) (S:St):Prop :=
 ws.length=kvs.length∧S.H.get b=some (.map { es:=BK ek 0 kvs ws,clk:=kvs.length })∧∀ (i:Nat) (x:κ × List Int) (w:AV),kvs[i]? = some x→ws[i]? = some w→hole ≠ some i→vP gr w x.2 S
def cz (ek:κ→D) (b:Nat) (kvs:List (κ × List Int)) (ws:List AV) (gr:Bool) (hole:Option Nat):bA:=.abs (b :: iB hole ws) (GV ek b kvs ws gr hole)
variable {ek:κ→D} {b:Nat} {kvs:List (κ × List Int)} {ws:List AV} {gr:Bool} {hole:Option Nat} {S S':St}
theorem jS:(cz ek b kvs ws gr hole).ok S↔GV ek b kvs ws gr hole S:=by
 constructor
 ·
  exact fun h=>h.2 S (fun _ _=>rfl)
 ·
  intro h
  obtain ⟨h1,h2,h3⟩:=id h
  refine ⟨fun id hid=>?_,fun S' e=>⟨h1,by rw [e b List.mem_cons_self]; exact h2,fun i x w hx hw hn=>(h3 i x w hx hw hn).keep (fun id hid=>e id (List.mem_cons_of_mem _ (lU.2 ⟨i,w,hw,hn,hid⟩)))⟩⟩
  rcases List.mem_cons.1 hid with rfl | hid
  ·
   exact ⟨_,h2⟩
  ·
   obtain ⟨i,w,hw,hn,hq⟩:=lU.1 hid
   have hi:i < kvs.length:=by rw [← h1]; exact (List.getElem?_eq_some_iff.1 hw).1
   exact (h3 i _ w (List.getElem?_eq_getElem hi) hw hn).rd.live id hq
theorem pg:gN [cz ek b kvs ws gr hole]=b :: iB hole ws:=by simp [gN,cz,bA.fp]
def mw (kvs:List (κ × List Int)) (ws:List AV) (k:κ):AV:=match eQ k kvs 0 with
 | some (i,_)=>ws.getD i .any
 | none=>.d .aT
def wh (kvs:List (κ × List Int)) (k:κ):Option Nat:=(eQ k kvs 0).map (·.1)
theorem wU {P:Program} {t:Nat} (K:nk P t ek) (k:κ):∀ (m:List (κ × List Int)) (ws:List AV) (i j:Nat),ws.length=m.length→jC P t (ek k) (BK ek i m ws) j=some ((eQ k m j).map fun r=>(r.1,ws.getD (r.1 - j) .any))
 | [],[],i,j,_=>rfl
 | (a,b) :: l,w :: ws,i,j,h=>by
  simp only [BK,jC,K.eq,eQ]
  cases hb:k == a with
  | true =>
   have:=eq_of_beq hb
   subst this
   simp [K.same]
  | false =>
   simp only [wU K k l ws (i + 1) (j + 1) (by simpa using h)]
   cases hf:eQ k l (j + 1) with
   | none=>rfl
   | some r =>
    have:=(nP k l (j + 1) r.1 r.2 hf).1
    simp only [Option.map_some,Bool.false_eq_true,if_false,Option.some.injEq,Prod.mk.injEq,true_and]
    rw [show r.1 - j=(r.1 - (j + 1)) + 1 by omega]; rfl
theorem um (k:κ):∀ (m:List (κ × List Int)) (i j:Nat) (v:List Int),eQ k m i=some (j,v)→m[j - i]? = some (k,v)
 | [],i,j,v,h=>by simp [eQ] at h
 | (a,b) :: l,i,j,v,h=>by
  simp only [eQ] at h
  split at h
  ·
   rename_i e
   have:=eq_of_beq e; subst this
   simp only [Option.some.injEq,Prod.mk.injEq] at h; obtain ⟨rfl,rfl⟩:=h; simp
  ·
   have h1:=um k l (i + 1) j v h
   have:=(nP k l (i + 1) j v h).1
   rw [show j - i=(j - (i + 1)) + 1 by omega]; simpa using h1
section
variable {C:fB} {ρ:Operand→Option AV} {l:List bA} {x y:Operand} {t1 kt et q:Nat} {k:κ}
theorem o5 (H:Has B S l) (hi:l[q]? = some (cz ek b kvs ws gr hole)) (hm:ρ x=some (.map b)) (hky:ρ y=some (.d (ek k))) (hk:lS C t1=some (kt,et)) (K:nk C.P kt ek) (hz:zeroOf C.P et=some .aT) :
  oper C ρ S (.lookup t1 x y false)=some (.val (mw kvs ws k) S):=by
 obtain ⟨h1,h2,h3⟩:=jS.1 (H.at hi)
 have:kg C t1 S (.map b) (ek k) false=some (mw kvs ws k):=by
  simp only [kg,hk,mapOf,h2,K.ok,if_true,wU K k kvs ws 0 0 h1]
  unfold mw
  cases eQ k kvs 0 with
  | none=>simp [hz]
  | some r=>simp
 simp only [oper,hm,hky,this,Option.map_some]
theorem Has.Ku {m:uB} (hm:m = { es:=[],clk:=0 }) (H:Has B S (.map b m :: l)):Has B S (cz ek b [] [] true none :: l):=by
 subst hm
 refine Has.o9 (l0:=[_]) (bs:=[_]) H (fun a ha=>?_) (by simp [gN,cz,bA.fp,iB,bG]) (fun id hid=>by simpa [gN,cz,bA.fp,iB,bG] using hid)
 simp only [List.mem_cons,List.not_mem_nil,or_false] at ha
 subst ha
 exact jS.2 ⟨rfl,H.ok _ List.mem_cons_self,fun i x w h=>by simp at h⟩
theorem Has.IZ (H:Has B S (cz ek b kvs ws true none :: l)):Has B S (cz ek b kvs ws false none :: l):=by
 refine Has.o9 (l0:=[_]) (bs:=[_]) H (fun a ha=>?_) (by have:=Has.nd0 (l0:=[_]) H; rwa [pg] at this ⊢) (fun id hid=>by rw [pg] at hid ⊢; exact hid)
 simp only [List.mem_cons,List.not_mem_nil,or_false] at ha
 subst ha
 obtain ⟨h1,h2,h3⟩:=jS.1 (H.ok _ List.mem_cons_self)
 exact jS.2 ⟨h1,h2,fun i x w hx hw hn=>(h3 i x w hx hw hn).rd⟩
theorem Has.Jc (H:Has B S (cz ek b kvs ws true none :: l)) (k:κ):Has B S (aG (mw kvs ws k) (fe kvs k []) :: cz ek b kvs ws true (wh kvs k) :: l):=by
 obtain ⟨h1,h2,h3⟩:=jS.1 (H.ok _ List.mem_cons_self)
 unfold mw fe oq wh
 cases hf:eQ k kvs 0 with
 | none=>exact H.Fb
 | some r =>
  obtain ⟨i,v⟩:=r
  have hg:=um k kvs 0 i v hf
  rw [Nat.sub_zero] at hg
  have hi:i < ws.length:=by rw [h1]; exact (List.getElem?_eq_some_iff.1 hg).1
  have hw:=List.getElem?_eq_getElem hi
  have hwd:ws.getD i .any=ws[i]:=by rw [List.getD_eq_getElem?_getD,hw]; rfl
  have hv:=h3 i _ _ hg hw (by simp)
  simp only [Option.map_some,Option.getD_some]
  rw [hwd]
  have hnd:=Has.nd0 (l0:=[_]) H
  rw [pg] at hnd
  have hperm:=oP hw
  have e:gN [aG ws[i] v,cz ek b kvs ws true (some i)]=aP ws[i] ++ (b :: iB (some i) ws):=by simp [gN,aG,cz,bA.fp]
  have hp2:(aP ws[i] ++ (b :: iB (some i) ws)).Perm (b :: iB none ws):=List.perm_middle.trans (List.Perm.cons _ hperm.symm)
  refine Has.o9 (l0:=[_]) (bs:=[_,_]) H (fun a ha=>?_) (by rw [e]; exact hp2.nodup_iff.2 hnd) (fun id hid=>by rw [pg]; rw [e] at hid; exact hp2.mem_iff.1 hid)
  simp only [List.mem_cons,List.not_mem_nil,or_false] at ha
  rcases ha with rfl | rfl
  ·
   exact fE.2 hv
  ·
   exact jS.2 ⟨h1,h2,fun j x w hx hw' _=>h3 j x w hx hw' (by simp)⟩
def nW (kvs:List (κ × List Int)) (ws:List AV) (k:κ) (w:AV):List AV:=match eQ k kvs 0 with
 | some (i,_)=>ws.set i w
 | none=>ws ++ [w]
theorem Dn:∀ (m:List (κ × List Int)) (ws:List AV) (i j:Nat) (k:κ) (v:List Int) (w:AV),ws.length=m.length→(BK ek i m ws).modify j (fun p=>(ek k,w,p.2.2))=BK ek i (m.set j (k,v)) (ws.set j w)
 | [],[],i,j,k,v,w,h=>by simp [BK]
 | (a,c) :: l,u :: ws,i,0,k,v,w,h=>by simp [BK]
 | (a,c) :: l,u :: ws,i,j + 1,k,v,w,h=>by
  have:=Dn l ws (i + 1) j k v w (by simpa using h)
  simp only [BK,List.set_cons_succ,List.modify_succ_cons,this]
theorem Dp:∀ (m:List (κ × List Int)) (ws:List AV) (i:Nat) (k:κ) (v:List Int) (w:AV),ws.length=m.length→BK ek i m ws ++ [(ek k,w,i + m.length)]=BK ek i (m ++ [(k,v)]) (ws ++ [w])
 | [],[],i,k,v,w,h=>rfl
 | (a,c) :: l,u :: ws,i,k,v,w,h=>by
  have:=Dp l ws (i + 1) k v w (by simpa using h)
  simp only [BK,List.cons_append,List.length_cons]
  rw [show i + (l.length + 1)=i + 1 + l.length by omega,this]
theorem Az (K:nk C.P kt ek) (hk:lS C t1=some (kt,et)) (h1:ws.length=kvs.length) (h2:S.H.get b=some (.map { es:=BK ek 0 kvs ws,clk:=kvs.length })) {w:AV} (hp:w.plain=true) (v:List Int) :
  mH C t1 S (.map b) (ek k) w=some { S with H:=S.H.set b (.map { es:=BK ek 0 (iD kvs k v) (nW kvs ws k w),clk:=(iD kvs k v).length }) }:=by
 simp only [mH,hk,h2,K.ok,hp,Bool.and_self,if_true,wU K k kvs ws 0 0 h1]
 unfold iD nW
 cases hf:eQ k kvs 0 with
 | none =>
  have:=Dp (ek:=ek) kvs ws 0 k v w h1
  rw [Nat.zero_add] at this
  simp [this]
 | some r=>simp [Dn (ek:=ek) kvs ws 0 r.1 k v w h1]
theorem Ed (h1:ws.length=kvs.length) (v:List Int) (w:AV):(nW kvs ws k w).length=(iD kvs k v).length:=by
 unfold nW iD
 cases eQ k kvs 0 with
 | none=>simp [h1]
 | some r=>simp [h1]
end
end
end
end Go.Ev

namespace Go.Ev
noncomputable section
set_option linter.unusedVariables false
set_option linter.unusedSimpArgs false
set_option linter.unusedSectionVars false
variable {R:bK} {P:Program} {B:St}
section
variable {κ:Type} [BEq κ] [LawfulBEq κ] {ek:κ→D} {b:Nat} {kvs:List (κ × List Int)} {ws:List AV} {gr:Bool} {hole:Option Nat} {S S':St} {k:κ}
theorem F3 {v:List Int}:∀ {i:Nat} {x:κ × List Int} {w u:AV},(iD kvs k v)[i]? = some x→(nW kvs ws k u)[i]? = some w→ws.length=kvs.length →
  (w=u∧x.2=v∧(wh kvs k=some i∨wh kvs k=none∧i=kvs.length))∨(kvs[i]? = some x∧ws[i]? = some w∧wh kvs k ≠ some i):=by
 intro i x w u hx hw h1
 unfold iD at hx
 unfold nW at hw
 unfold wh
 cases hf:eQ k kvs 0 with
 | none =>
  rw [hf] at hx hw
  simp only at hx hw
  by_cases hi:i < kvs.length
  ·
   rw [List.getElem?_append_left hi] at hx
   rw [List.getElem?_append_left (by omega)] at hw
   exact .inr ⟨hx,hw,by simp⟩
  ·
   have hi':i=kvs.length:=by
    have:=(List.getElem?_eq_some_iff.1 hx).1
    simp at this; omega
   subst hi'
   rw [List.getElem?_append_right (Nat.le_refl _)] at hx
   rw [← h1,List.getElem?_append_right (Nat.le_refl _)] at hw
   simp at hx hw
   subst hx; subst hw
   exact .inl ⟨rfl,rfl,.inr ⟨rfl,rfl⟩⟩
 | some r =>
  rw [hf] at hx hw
  simp only at hx hw
  by_cases hi:r.1=i
  ·
   subst hi
   have hlt:r.1 < kvs.length:=by have:=(List.getElem?_eq_some_iff.1 hx).1; simpa using this
   rw [List.getElem?_set_self hlt] at hx
   rw [List.getElem?_set_self (by omega)] at hw
   cases hx; cases hw
   exact .inl ⟨rfl,rfl,.inl rfl⟩
  ·
   rw [List.getElem?_set_ne hi] at hx hw
   exact .inr ⟨hx,hw,by simp [hi]⟩
theorem AA {u:AV} (h1:ws.length=kvs.length):(iB none (nW kvs ws k u)).Perm (aP u ++ iB (wh kvs k) ws):=by
 unfold nW wh
 cases hf:eQ k kvs 0 with
 | none=>simp only [Option.map_none]; rw [DY]; exact List.perm_append_comm
 | some r =>
  simp only [Option.map_some]
  have hg:=(nP k kvs 0 r.1 r.2 hf).2
  have:=oP (ws:=ws.set r.1 u) (n:=r.1) (w:=u) (by rw [List.getElem?_set_self (by omega)])
  rwa [Dx] at this
section
variable {C:fB} {ρ:Operand→Option AV} {l:List bA} {x y:Operand} {t1 kt et q el:Nat} {n:Int} {kk:IntKind}
theorem xS (H:Has B S l) (hi:l[q]? = some (cz ek b kvs ws gr none)) (k:κ):uU (mw kvs ws k) (fe kvs k []) S:=by
 obtain ⟨h1,h2,h3⟩:=jS.1 (H.at hi)
 unfold mw fe oq
 cases hf:eQ k kvs 0 with
 | none=>exact (rfl:uU (.d .aT) [] S)
 | some r =>
  obtain ⟨i,v⟩:=r
  have hg:=um k kvs 0 i v hf
  rw [Nat.sub_zero] at hg
  have hlt:i < ws.length:=by rw [h1]; exact (List.getElem?_eq_some_iff.1 hg).1
  have hw:=List.getElem?_eq_getElem hlt
  have hwd:ws.getD i .any=ws[i]:=by rw [List.getD_eq_getElem?_getD,hw]; rfl
  simp only [Option.map_some,Option.getD_some]
  rw [hwd]
  exact (h3 i _ _ hg hw (by simp)).rd
variable {w:AV} {ys:List Int}
theorem Cz (h:uU w ys S) (hx:ρ x=some w) (ht:(bf C.P t1).isSome=true):oper C ρ S (.call { callee:=.builtin .len,args:=#[x],argTypes:=#[t1] })=some (.val (.d (.int .i64 (ys.length:Int))) S):=by
 have hu:∃ e,C.P.underlying t1=some (.slice e):=by
  unfold bf at ht
  split at ht
  ·
   rename_i hu; exact ⟨_,hu⟩
  ·
   cases ht
 obtain ⟨e,hu⟩:=hu
 unfold uU at h
 split at h
 ·
  subst h; exact mI hx (by simp [nC,hu]) rfl
 ·
  subst h; exact mI hx (by simp [nC,hu]) rfl
 ·
  obtain ⟨_,h2,_⟩:=h; subst h2; exact mI hx (by simp [nC,hu]) rfl
 ·
  exact h.elim
def Fw (w:AV) (n:Nat):AV:=match w with
 | .dC id g off _ _ sz=>.ptr id g (off + n * sz)
 | _=>.any
theorem BS (h:uU w ys S) {z:Int} (hz:idx ys n=some z) (hx:ρ x=some w) (hy:ρ y=some (.d (.int kk n))) (he:bf C.P t1=some el) (ha:(dQ C.P el).isSome=true) (hs:aJ C.P el=1):oper C ρ S (.indexAddr t1 x y)=some (.val (Fw w n.toNat) S):=by
 obtain ⟨h0,h1⟩:=dB hz
 unfold uU at h
 split at h
 ·
  subst h; simp at h1
 ·
  subst h; simp at h1
 ·
  obtain ⟨rfl,rfl,h3,cs,h4,h5⟩:=h
  refine bD hx hy ?_
  simp only [gP,he,h0,ha,decide_true,Bool.and_self,if_true]
  rw [if_pos ⟨(List.getElem?_eq_some_iff.1 h1).1,hs.symm⟩,hs]
  rfl
 ·
  exact h.elim
theorem Bb (h:uU w ys S) {z:Int} (hz:idx ys n=some z) (hx:ρ x=some (Fw w n.toNat)) (ha:dQ C.P t1=some false):oper C ρ S (.load t1 x)=some (.val (.d (.int .i64 z)) S):=by
 obtain ⟨h0,h1⟩:=dB hz
 unfold uU at h
 split at h
 ·
  subst h; simp at h1
 ·
  subst h; simp at h1
 ·
  rename_i id g off len lim sz
  obtain ⟨rfl,rfl,h3,cs,h4,h5⟩:=h
  have hlt:=(List.getElem?_eq_some_iff.1 h1).1
  have hc:cs[off + n.toNat]? = some (iA z):=by
   have:((cs.drop off).take ys.length)[n.toNat]? = some (iA z):=by rw [h5,List.getElem?_map,h1]; rfl
   rw [List.getElem?_take_of_lt hlt,List.getElem?_drop] at this
   exact this
  have:part C.P t1 cs (off + n.toNat * 1)=some (iA z):=by
   unfold part; rw [ha,Nat.mul_one]; exact hc
  simp only [Fw] at hx
  simp only [oper,hx,kF,St.look,h4,Nat.beq_refl,cond_true,this,Option.map_some]
  rfl
 ·
  exact h.elim
def nE (w:AV) (j:Nat):AV:=match w with
 | .dC id g off len lim sz=>if j=lim then .d (.sl [] false) else .dC id g (off + j * sz) (len - j) (lim - j) sz
 | x=>x
theorem CP (w:AV) (j:Nat):∀ id ∈ aP (nE w j),id ∈ aP w:=by
 unfold nE
 split
 ·
  split
  ·
   intro id h; simp [aP] at h
  ·
   intro id h; simpa [aP] using h
 ·
  exact fun _ h=>h
theorem Ej {j:Int} {r:List Int} (h:uU w ys S) (hc:cut ys j (ys.length:Int)=some r) (hj:0 < ys.length):uU (nE w j.toNat) r S:=by
 obtain ⟨⟨h0,h1,_⟩,rfl⟩:=xR hc
 unfold uU at h
 split at h
 ·
  subst h; simp at hj
 ·
  subst h; simp at hj
 ·
  rename_i id g off len lim sz
  obtain ⟨rfl,rfl,h3,cs,h4,h5⟩:=h
  unfold nE
  simp only
  split
  ·
   rename_i e
   show ((ys.take ((ys.length:Int)).toNat).drop j.toNat)=[]
   rw [Int.toNat_natCast,List.take_length]
   exact List.drop_of_length_le (by omega)
  ·
   refine ⟨rfl,by simp,by simp; omega,cs,h4,?_⟩
   rw [Int.toNat_natCast,List.take_length,List.map_drop,← h5,List.drop_take,List.drop_drop]
   simp
 ·
  exact h.elim
theorem Aq {j:Int} {r:List Int} {lo:Operand} (h:uU w ys S) (hc:cut ys j (ys.length:Int)=some r) (hj:0 < ys.length) (hx:ρ x=some w) (hl:ρ lo=some (.d (.int kk j))) (he:bf C.P t1=some el) (hu:(C.P.underlying el).isSome=true) (hs:aJ C.P el=1) :
  oper C ρ S (.slice t1 x (some lo) none none)=some (.val (nE w j.toNat) S):=by
 obtain ⟨⟨h0,h1,_⟩,_⟩:=xR hc
 unfold uU at h
 split at h
 ·
  subst h; simp at hj
 ·
  subst h; simp at hj
 ·
  rename_i id g off len lim sz
  obtain ⟨rfl,rfl,h3,cs,h4,h5⟩:=h
  simp only [oper,hx,vK,hl,kL,oV,he,gW,asNat,if_pos h0]
  rw [if_pos ⟨hs.symm,hu,by decide⟩,if_pos ⟨by omega,by omega⟩]
  simp only [nE,Option.map_some]
  split <;> rfl
 ·
  exact h.elim
end
section
variable {C:fB} {nt:Nat} {ops:Array Oper} {rest:List Oper} {e:Env} {Q:Stp→Prop} {l:List bA} {ty:Nat} {p:String} {af:Array Edge} {g:Option (Nat × Bool)} {x y z:Operand} {w:AV} {ys:List Int} {t1 kt et:Nat}
theorem Has.FD {pre:List bA} {H0:List Nat} (hpre:gN pre=H0) (H:Has B S (pre ++ cz ek b kvs ws gr hole :: l)) (hh:hole=none∨hole=wh kvs k) (hids:∀ id ∈ aP w,id ∈ H0∨(hole=none∧∃ i u,wh kvs k=some i∧ws[i]? = some u∧id ∈ aP u)) (hnw:(aP w).Nodup) (hv:vP gr w ys S) :
  Has B { S with H:=S.H.set b (.map { es:=BK ek 0 (iD kvs k ys) (nW kvs ws k w),clk:=(iD kvs k ys).length }) } (cz ek b (iD kvs k ys) (nW kvs ws k w) gr none :: l):=by
 subst hpre
 have H2:Has B S ((pre ++ [cz ek b kvs ws gr hole]) ++ l):=by simpa using H
 obtain ⟨h1,h2,h3⟩:=jS.1 (H.ok (cz ek b kvs ws gr hole) (by simp))
 have hnd:=Has.nd0 H2
 have efp:gN (pre ++ [cz ek b kvs ws gr hole])=gN pre ++ (b :: iB hole ws):=by rw [oU,pg]
 rw [efp] at hnd
 have hlt:b < S.nx:=Has.lt H (iI.2 ⟨cz ek b kvs ws gr hole,by simp,by simp [cz,bA.fp]⟩)
 have hnd3:=(List.nodup_append.1 hnd).2.1
 have hb:=(List.nodup_cons.1 hnd3).1
 have hsub:∀ id ∈ iB (wh kvs k) ws,id ∈ iB hole ws:=fun id hid=>by
  rcases hh with rfl | rfl
  ·
   obtain ⟨i,u,q1,q2,q3⟩:=lU.1 hid; exact lU.2 ⟨i,u,q1,by simp,q3⟩
  ·
   exact hid
 have hndk:(iB (wh kvs k) ws).Nodup:=by
  rcases hh with rfl | rfl
  ·
   cases hm:wh kvs k with
   | none=>exact (List.nodup_cons.1 hnd3).2
   | some i =>
    by_cases hi:i < ws.length
    ·
     have:=oP (List.getElem?_eq_getElem hi)
     exact (List.nodup_append.1 (this.nodup_iff.1 (List.nodup_cons.1 hnd3).2)).2.1
    ·
     unfold wh at hm
     cases hf:eQ k kvs 0 with
     | none=>rw [hf] at hm; cases hm
     | some r =>
      rw [hf] at hm; simp at hm; subst hm
      have:=(nP k kvs 0 r.1 r.2 hf).2
      omega
  ·
   exact (List.nodup_cons.1 hnd3).2
 have hdis:∀ id ∈ aP w,id ∉ iB (wh kvs k) ws∧id ≠ b:=fun id hid=>by
  rcases hids id hid with h | ⟨rfl,i,u,hm,hu,hq⟩
  ·
   have hd:=(List.nodup_append.1 hnd).2.2 id h
   exact ⟨fun q=>hd id (List.mem_cons_of_mem _ (hsub id q)) rfl,fun q=>hd id (by rw [q]; exact List.mem_cons_self) rfl⟩
  ·
   have:=oP hu
   have hn:=this.nodup_iff.1 (List.nodup_cons.1 hnd3).2
   refine ⟨fun q=>?_,fun q=>hb (by rw [← q]; exact this.mem_iff.2 (List.mem_append_left _ hq))⟩
   rw [hm] at q
   exact (List.nodup_append.1 hn).2.2 id hq id q rfl
 have hperm:=AA (k:=k) (u:=w) h1
 have hidin:∀ id ∈ b :: iB none (nW kvs ws k w),id ∈ gN (pre ++ [cz ek b kvs ws gr hole]):=fun id hid=>by
  rw [efp]
  rcases List.mem_cons.1 hid with rfl | hid
  ·
   exact List.mem_append_right _ List.mem_cons_self
  ·
   rcases List.mem_append.1 (hperm.mem_iff.1 hid) with hid | hid
   ·
    rcases hids id hid with h | ⟨rfl,i,u,hm,hu,hq⟩
    ·
     exact List.mem_append_left _ h
    ·
     exact List.mem_append_right _ (List.mem_cons_of_mem _ (lU.2 ⟨i,u,hu,by simp,hq⟩))
   ·
    exact List.mem_append_right _ (List.mem_cons_of_mem _ (hsub id hid))
 have hbw:b ∉ iB none (nW kvs ws k w):=fun q=>by
  rcases List.mem_append.1 (hperm.mem_iff.1 q) with q | q
  ·
   exact (hdis b q).2 rfl
  ·
   exact hb (hsub b q)
 have hkeep:∀ {u:AV} {vs:List Int},vP gr u vs S→b ∉ aP u→vP gr u vs { S with H:=S.H.set b (.map { es:=BK ek 0 (iD kvs k ys) (nW kvs ws k w),clk:=(iD kvs k ys).length }) }:=fun q hq=>q.keep (fun id hid=>by simp only [AL.aO]; rw [if_neg (fun (e:b=id)=>hq (by rw [e]; exact hid))])
 refine Has.upd (bs:=[_]) H2 (wf_set H.wf hlt _) (Nat.le_refl _) (fun j hj _=>⟨?_,rfl⟩) (fun a ha=>?_) ?_ (fun j hj=>.inl ?_)
 ·
  simp only [AL.aO]
  rw [if_neg (fun q=>hj (by rw [efp,← q]; exact List.mem_append_right _ List.mem_cons_self))]
 ·
  simp only [List.mem_cons,List.not_mem_nil,or_false] at ha
  subst ha
  refine jS.2 ⟨Ed h1 ys w,by simp only [AL.aO,if_true],fun i x u hx hu _=>?_⟩
  have hbu:b ∉ aP u:=fun q=>hbw (lU.2 ⟨i,u,hu,by simp,q⟩)
  rcases F3 hx hu h1 with ⟨rfl,e2,_⟩ | ⟨q1,q2,q3⟩
  ·
   rw [e2]; exact hkeep hv hbu
  ·
   refine hkeep (h3 i x u q1 q2 ?_) hbu
   rcases hh with rfl | rfl
   ·
    simp
   ·
    exact q3
 ·
  rw [pg]
  refine List.nodup_cons.2 ⟨hbw,hperm.nodup_iff.2 (List.nodup_append.2 ⟨hnw,hndk,fun a ha c hc hac=>?_⟩)⟩
  subst hac; exact (hdis a ha).1 hc
 ·
  rw [pg] at hj; exact hidin j hj
theorem sW (w:AV):(aP w).Nodup:=by unfold aP; split <;> simp
theorem ai.GQ (H:Has B S (aG w ys :: cz ek b kvs ws true (wh kvs k) :: l)) (hw:bL ops e { dst:=none,op:=.mapUpdate t1 x y z,type:=ty,pos:=p,after:=af,guard:=g }=some true) (hm:bI e x=some (.map b)) (hky:bI e y=some (.d (ek k))) (hv:bI e z=some w) (hk:lS C t1=some (kt,et)) (K:nk C.P kt ek)
  (kk:∀ ws' S',Has B S' (cz ek b (iD kvs k ys) ws' true none :: l)→ai R C nt ops rest e S' Q) :
  ai R C nt ops ({ dst:=none,op:=.mapUpdate t1 x y z,type:=ty,pos:=p,after:=af,guard:=g } :: rest) e S Q:=by
 have hs:=fE.1 (H.ok _ List.mem_cons_self)
 obtain ⟨h1,h2,h3⟩:=jS.1 (H.ok (cz ek b kvs ws true (wh kvs k)) (by simp))
 have hupd:=Az (C:=C) (k:=k) (ws:=ws) (v:=ys) K hk h1 h2 hs.rd.plain
 have:=Has.FD (pre:=[aG w ys]) (H0:=aP w) (by simp [gN,aG,bA.fp]) H (.inr rfl) (fun id hid=>.inl hid) (sW w) (by unfold vP; exact hs)
 exact ai.skip hw (by simp only [oper,hm,hky,hv,hupd,Option.map_some]) (kk _ _ this)
theorem ai.Gj {j:Int} {r:List Int} (H:Has B S (cz ek b kvs ws false none :: l)) (hw:bL ops e { dst:=none,op:=.mapUpdate t1 x y z,type:=ty,pos:=p,after:=af,guard:=g }=some true) (hm:bI e x=some (.map b)) (hky:bI e y=some (.d (ek k))) (hc:cut (fe kvs k []) j ((fe kvs k []).length:Int)=some r) (hpos:0 < (fe kvs k []).length) (hv:bI e z=some (nE (mw kvs ws k) j.toNat)) (hk:lS C t1=some (kt,et)) (K:nk C.P kt ek)
  (kk:∀ ws' S',Has B S' (cz ek b (iD kvs k r) ws' false none :: l)→ai R C nt ops rest e S' Q) :
  ai R C nt ops ({ dst:=none,op:=.mapUpdate t1 x y z,type:=ty,pos:=p,after:=af,guard:=g } :: rest) e S Q:=by
 have hrow:=xS H (q:=0) rfl k
 have hr:=Ej hrow hc hpos
 obtain ⟨h1,h2,h3⟩:=jS.1 (H.ok _ List.mem_cons_self)
 have hupd:=Az (C:=C) (k:=k) (ws:=ws) (v:=r) K hk h1 h2 hr.plain
 have:=Has.FD (pre:=[]) (k:=k) (w:=nE (mw kvs ws k) j.toNat) (ys:=r) (H0:=[]) rfl H (.inl rfl) (fun id hid=>.inr ⟨rfl,by
  have h0:=CP _ _ id hid
  unfold mw at h0
  unfold wh
  cases hf:eQ k kvs 0 with
  | none=>rw [hf] at h0; simp [aP] at h0
  | some q =>
   rw [hf] at h0
   have hlt:=(nP k kvs 0 q.1 q.2 hf).2
   have hwi:=List.getElem?_eq_getElem (l:=ws) (i:=q.1) (by omega)
   refine ⟨q.1,_,rfl,hwi,?_⟩
   simp only [List.getD_eq_getElem?_getD,hwi] at h0
   exact h0⟩) (sW _) (by unfold vP; exact hr)
 exact ai.skip hw (by simp only [oper,hm,hky,hv,hupd,Option.map_some]) (kk _ _ this)
end
end
end
end Go.Ev
namespace Go.Ev
theorem Dq {α:Type} {l:List α} {n:Int} {x:α} (h:idx l n=some x):0 < l.length:=by
 have:=(List.getElem?_eq_some_iff.1 (dB h).2).1
 omega
theorem IX {P:Program} {t:Nat} {xs ys:List D} (h:P.eqGuardType P.depth t=false):AV.eqv P t (.d (.agg xs)) (.d (.agg ys))=jO P 20 t (.agg xs) (.agg ys):=by simp [AV.eqv,h]
theorem Ab {P:Program} {t:Nat} {fs:Array Field} {xs:List D} (hu:P.underlying t=some (.struct fs)) (h1:xs.all kN=true) (h2:(fs.all fun f=>f.name != "_" && jR P f.type && (iC P f.type xs f.offset).isSome)=true):lD P t (.agg xs)=true:=by
 simp only [lD,hu,h1,h2,Bool.and_self]
end Go.Ev

namespace Go.Ev
noncomputable section
set_option linter.unusedVariables false
set_option linter.unusedSimpArgs false
variable {R:bK} {P:Program} {B:St}
section
variable {α:Type} {enc:α→D} {C:fB} {S:St} {l:List bA} {v rv:AV} {xs r:List α} {z:α} {c:List AV} {sz:Nat} {x y:Operand} {t el nb u:Nat}
theorem vQ {ρ:Operand→Option AV} (H:Has B S (fD sz 1 rv c :: .row sz v (xs.map enc) :: l)) (hx:ρ x=some v) (hy:ρ y=some rv) (hnr:C.rowT t=true) (hu:ik C u=true) (he:bf C.P t=some el) (hs:aJ C.P el=sz) (hpos:Nat.blt 0 sz=true)
  (hr:Ev.app nb xs [z]=some r) (hnb:bytesOf C.P el=nb) (h0:(Nat.blt 0 nb && Nat.ble nb 65536)=true) (hz:eu C el=true) (hle:fG ((enc z).cells.map .d) c) (hzl:(enc z).cells.length=sz) (hzf:jF (enc z).cells=true) :
  ∃ v' S',oper C ρ S (.call { callee:=.builtin .append,args:=#[x,y],argTypes:=#[t,u] })=some (.val v' S')∧Has B S' (.row sz v' (r.map enc) :: l):=by
 obtain ⟨hb,rfl⟩:=kW hr
 subst hs
 have hpos:0 < aJ C.P el:=Nat.le_of_ble_eq_true hpos
 have hm:fU ρ [x,y]=some [v,rv]:=by simp only [fU,hx,hy,Option.map_some]
 have hraw:=uC.1 (H.ok (fD (aJ C.P el) 1 rv c) (by simp))
 have hcl:c.length=aJ C.P el:=by obtain ⟨_,_,_,_,q⟩:=hraw; omega
 have hsrc:=zH hraw hpos
 have hg:nN C el (xs.length + 1)=true:=qN (by simpa using hb) hnb h0 hz
 have hp:=H.ok (.row (aJ C.P el) v (xs.map enc)) (by simp)
 have H2:Has B S ([fD (aJ C.P el) 1 rv c,.row (aJ C.P el) v (xs.map enc)] ++ l):=H
 have e2:gN [fD (aJ C.P el) 1 rv c,.row (aJ C.P el) v (xs.map enc)]=aP rv ++ (bA.row (aJ C.P el) v (xs.map enc)).fp:=by simp [gN,fD,bA.fp]
 have finish:∀ (id g:Nat) (cs:List AV) (S':St),fG ((((xs ++ [z]).map enc).map D.cells).flatten.map .d) cs→(∀ w ∈ (xs ++ [z]).map enc,w.cells.length=aJ C.P el∧jF w.cells=true)→S'.H.get id=some (.cells g cs)→(∀ j,j ≠ id→S'.H.get j=S.H.get j)→S'.T=S.T→S'.Wf→S.nx ≤ S'.nx→(id ∈ (bA.row (aJ C.P el) v (xs.map enc)).fp∨S.nx ≤ id) →
   Has B S' (.row (aJ C.P el) (.dC id g 0 (xs.length + 1) (xs.length + 1) (aJ C.P el)) ((xs ++ [z]).map enc) :: l):=fun id g cs S' hl hw hH hsame hT wf nx hin=>by
  refine Has.upd (bs:=[_]) H2 wf nx (fun j hj hlt=>⟨hsame j (fun q=>?_),by rw [hT]⟩) (fun a ha=>?_) (by simp [gN,bA.fp]) (fun j hj=>?_)
  ·
   subst q
   rcases hin with h | h
   ·
    exact hj (by rw [e2]; exact List.mem_append_right _ h)
   ·
    omega
  ·
   simp only [List.mem_cons,List.not_mem_nil,or_false] at ha
   subst ha
   exact ⟨rfl,by simp,by simp,rfl,hpos,hw,cs,hl,hH⟩
  ·
   have:j=id:=by simpa [gN,bA.fp] using hj
   subst this
   rcases hin with h | h
   ·
    exact .inl (by rw [e2]; exact List.mem_append_right _ h)
   ·
    exact .inr h
 have first:∀ w,(w=.d .aT∨w=.d (.sl [] true))→xs=[]→∃ v' S',(gB C el S w [] rv).map (fun r=>Ew.val r.1 r.2)=some (.val v' S')∧Has B S' (.row (aJ C.P el) v' ((xs ++ [z]).map enc) :: l):=fun w hw hxs=>by
  subst hxs
  refine ⟨.dC S.nx 0 0 1 1 (aJ C.P el),{ S with H:=S.H.set S.nx (.cells 0 c),nx:=S.nx + 1 },?_,?_⟩
  ·
   simp only [gB,hsrc]
   rw [if_neg (by decide),if_pos ⟨by decide,hpos,rfl,by simpa using hg⟩]
   rfl
  ·
   exact finish S.nx 0 c _ (by simpa using hle) (fun w hw=>by simp at hw; subst hw; exact ⟨hzl,hzf⟩) (by simp [AL.aO]) (fun j hj=>by simp only [AL.aO]; rw [if_neg (Ne.symm hj)]) rfl (zV H.wf _) (Nat.le_succ _) (.inr (Nat.le_refl _))
 simp only [oper,hm,dU,List.getElem?_toArray,List.getElem?_cons_zero,List.getElem?_cons_succ,hu,if_true,he]
 simp only [bA.ok] at hp
 split at hp
 ·
  simp only [hnr,cond_true]; exact first _ (.inl rfl) (by simpa using hp)
 ·
  simp only [hnr,cond_true]; exact first _ (.inr rfl) (by simpa using hp)
 ·
  rename_i id g off len lim sz'
  obtain ⟨rfl,rfl,rfl,rfl,_,hsz,cs,hcs,hid⟩:=hp
  have hlen:cs.length=xs.length * aJ C.P el:=by
   have:=hcs.len
   rw [List.length_map,Af (fun x hx=>(hsz x hx).1)] at this
   simpa using this.symm
  have hlt:id < S.nx:=Has.lt H (iI.2 ⟨.row (aJ C.P el) (.dC id g 0 (xs.map enc).length (xs.map enc).length (aJ C.P el)) (xs.map enc),by simp,by simp [bA.fp]⟩)
  refine ⟨.dC id (g + 1) 0 (xs.length + 1) (xs.length + 1) (aJ C.P el),{ S with H:=S.H.set id (.cells (g + 1) (cs.take ((xs.map enc).length * aJ C.P el) ++ c)) },?_,?_⟩
  ·
   simp only [iP,hsrc,St.look,hid,Nat.beq_refl,cond_true,List.length_map]
   rw [if_pos ⟨trivial,hpos,by omega⟩,if_neg (by decide),if_neg (by omega),if_pos ⟨trivial,hg⟩]
   rfl
  ·
   refine finish id (g + 1) (cs.take ((xs.map enc).length * aJ C.P el) ++ c) _ ?_ (fun w hw=>?_) (by simp only [AL.aO,if_true]) (fun j hj=>by simp only [AL.aO]; rw [if_neg (Ne.symm hj)]) rfl (wf_set H.wf hlt _) (Nat.le_refl _) (.inl (by simp [bA.fp]))
   ·
    rw [List.length_map,← hlen,List.take_length]
    simp only [List.map_append,List.flatten_append,List.map_cons,List.map_nil,List.flatten_cons,List.flatten_nil,List.append_nil]
    exact hcs.append hle
   ·
    rw [List.map_append] at hw
    rcases List.mem_append.1 hw with hw | hw
    ·
     exact hsz w hw
    ·
     simp at hw; subst hw; exact ⟨hzl,hzf⟩
 ·
  exact hp.elim
end
section
variable {α:Type} {enc:α→D} {C:fB} {nt:Nat} {ops:Array Oper} {rest:List Oper} {e:Env} {S:St} {Q:Stp→Prop} {l:List bA} {t ty:Nat} {p:String} {af:Array Edge} {g:Option (Nat × Bool)} {x y:Operand} {v rv:AV} {xs r:List α} {z:α} {c:List AV} {sz t1 u el nb:Nat}
theorem ai.xw (H:Has B S (fD sz 1 rv c :: .row sz v (xs.map enc) :: l)) (hw:bL ops e { dst:=some t,op:=.call { callee:=.builtin .append,args:=#[x,y],argTypes:=#[t1,u] },type:=ty,pos:=p,after:=af,guard:=g }=some true)
  (hx:bI e x=some v) (hy:bI e y=some rv) (hnr:C.rowT t1=true) (hu:ik C u=true) (he:bf C.P t1=some el) (hs:aJ C.P el=sz) (hpos:Nat.blt 0 sz=true)
  (hr:Ev.app nb xs [z]=some r) (hnb:bytesOf C.P el=nb) (h0:(Nat.blt 0 nb && Nat.ble nb 65536)=true) (hz:eu C el=true) (hle:fG ((enc z).cells.map .d) c) (hzl:(enc z).cells.length=sz) (hzf:jF (enc z).cells=true) (ht:Nat.blt t nt=true)
  (kk:∀ v' S',Has B S' (.row sz v' (r.map enc) :: l)→ai R C nt ops rest ((t,v') :: e) S' Q) :
  ai R C nt ops ({ dst:=some t,op:=.call { callee:=.builtin .append,args:=#[x,y],argTypes:=#[t1,u] },type:=ty,pos:=p,after:=af,guard:=g } :: rest) e S Q:=by
 obtain ⟨v',S',h1,h2⟩:=vQ (C:=C) (ρ:=bI e) H hx hy hnr hu he hs hpos hr hnb h0 hz hle hzl hzf
 exact ai.val hw h1 ht (kk v' S' h2)
end
end
end Go.Ev

namespace Go.Ev
namespace Pr
set_option linter.unusedVariables false
set_option linter.unusedSimpArgs false
structure Attr where
 Name:Str
 Value:Str
 deriving DecidableEq
def aD (x:Attr):D:=.agg [(.str x.Name),(.str x.Value)]
theorem Attr.eq (x:Attr):aD x=.agg [(.str x.Name),(.str x.Value)]:=rfl
theorem Attr.cells (x:Attr):(aD x).cells=[(.str x.Name),(.str x.Value)]:=by rw [Attr.eq]; rfl
theorem Attr.len (x:Attr):(aD x).cells.length=2:=by rw [Attr.cells]; rfl
theorem Attr.cn (x:Attr):(aD x).cn=aD x:=by
 rw [Attr.eq]
 exact Fq (by
  intro d hd
  simp only [List.mem_cons,List.not_mem_nil,or_false] at hd
  rcases hd with rfl | rfl
  ·
   exact rfl
  ·
   exact rfl)
theorem Attr.rq {P:Program} {t:Nat} {x:Attr} (ha:dQ P t=some true) (hz:aJ P t=2):iC P t (aD x).cells 0=some (aD x):=by
 rw [Attr.cells,yO ha hz rfl,Attr.eq]; rfl
def Attr.beq (x y:Attr):Bool:=((x.Name == y.Name) && ((x.Value == y.Value) && true))
structure az where
 lives:Bool
 tag:Str
 key:Str
 text:Str
 attrs:(List Attr)
 parent:Int
def dh (x:az):D:=.agg [(.bool x.lives),(.str x.tag),(.str x.key),(.str x.text),(.sl ((x.attrs).map aD) false),.aT,(.int .i64 x.parent)]
theorem az.eq (x:az):dh x=.agg [(.bool x.lives),(.str x.tag),(.str x.key),(.str x.text),(.sl ((x.attrs).map aD) false),.aT,(.int .i64 x.parent)]:=rfl
theorem az.gu (x:az):(AV.d (dh x)).cells=[.d (.bool x.lives),.d (.str x.tag),.d (.str x.key),.d (.str x.text),.d (.sl ((x.attrs).map aD) false),.d .aT,.d (.int .i64 x.parent)]:=by rw [az.eq]; rfl
structure ah where
 lives:Bool
 tag:Str
 key:Str
 text:Str
 attrs:(List Attr)
 kids:(List Int)
 parent:Int
def ae (x:ah):D:=.agg [(.bool x.lives),(.str x.tag),(.str x.key),(.str x.text),(.sl ((x.attrs).map aD) false),(.sl ((x.kids).map (D.int .i64)) false),(.int .i64 x.parent)]
structure au where
 l:(List ah)
 freed:(List Int)
inductive Tree where
 | mk (Tag:Str) (Key:Str) (Text:Str) (aV:(List Attr)) (Kids:(List Tree))
def Tree.Tag:Tree→Str | .mk x _ _ _ _=>x
def Tree.Key:Tree→Str | .mk _ x _ _ _=>x
def Tree.Text:Tree→Str | .mk _ _ x _ _=>x
def Tree.aV:Tree→(List Attr) | .mk _ _ _ x _=>x
def Tree.Kids:Tree→(List Tree) | .mk _ _ _ _ x=>x
mutual
def ax:Tree→D
 | .mk x0 x1 x2 x3 x4=>.agg [(.str x0),(.str x1),(.str x2),(.sl ((x3).map aD) false),.sl (l9 x4) false]
def l9:List Tree→List D
 | []=>[]
 | x :: l=>ax x :: l9 l
end
theorem sK:∀ (l:List Tree),l9 l=l.map ax
 | []=>rfl
 | x :: l=>by rw [l9,sK l]; rfl
theorem Tree.eq (x:Tree):ax x=.agg [(.str x.Tag),(.str x.Key),(.str x.Text),(.sl ((x.aV).map aD) false),(.sl ((x.Kids).map ax) false)]:=by
 cases x
 rw [ax,sK]
 rfl
theorem Tree.cells (x:Tree):(ax x).cells=[(.str x.Tag),(.str x.Key),(.str x.Text),(.sl ((x.aV).map aD) false),(.sl ((x.Kids).map ax) false)]:=by rw [Tree.eq]; rfl
theorem Tree.gu (x:Tree):(AV.d (ax x)).cells=[.d (.str x.Tag),.d (.str x.Key),.d (.str x.Text),.d (.sl ((x.aV).map aD) false),.d (.sl ((x.Kids).map ax) false)]:=by rw [Tree.eq]; rfl
theorem Tree.agg (x:Tree):(ax x).isAgg=true:=by rw [Tree.eq]; rfl
theorem Tree.len (x:Tree):(ax x).cells.length=5:=by rw [Tree.cells]; rfl
mutual
theorem Tree.cn:∀ (x:Tree),(ax x).cn=ax x
 | .mk x0 x1 x2 x3 x4=>by
  rw [ax]
  exact Fq (by
   intro d hd
   simp only [List.mem_cons,List.not_mem_nil,or_false] at hd
   rcases hd with rfl | rfl | rfl | rfl | rfl
   ·
    exact rfl
   ·
    exact rfl
   ·
    exact rfl
   ·
    exact IW Attr.cn _ _
   ·
    exact congrArg (D.sl · false) (Tree.Et x4))
theorem Tree.Et:∀ (l:List Tree),D.Et (l9 l)=l9 l
 | []=>rfl
 | x :: l=>by rw [l9,D.Et,Tree.cn x,Tree.Et l]
end
theorem Tree.rq {P:Program} {t:Nat} {x:Tree} (ha:dQ P t=some true) (hz:aJ P t=5):iC P t (ax x).cells 0=some (ax x):=by
 rw [Tree.cells,yO ha hz rfl,Tree.eq]; rfl
structure aR where
 tag:Str
 key:Str
 deriving DecidableEq
def aK (x:aR):D:=.agg [(.str x.tag),(.str x.key)]
theorem aR.eq (x:aR):aK x=.agg [(.str x.tag),(.str x.key)]:=rfl
theorem aR.gu (x:aR):(AV.d (aK x)).cells=[.d (.str x.tag),.d (.str x.key)]:=by rw [aR.eq]; rfl
def aR.beq (x y:aR):Bool:=((x.tag == y.tag) && ((x.key == y.key) && true))
def nO (a1:(List Int)) (a2:(List Int)):Nat→Int→Option Bool
 | 0,_=>none
 | k12 + 1,x11 =>
  (if (decide (x11 < ((a1).length:Int)))=true then ((idx a1 x11).bind fun z14=>((idx a2 x11).bind fun z15=>(if (z14 != z15)=true then (some false) else ((nO a1 a2 k12) ((IntKind.wrap .i64 (x11 + 1))))))) else (some true))
def jb (n:Nat) (a2:au) (a6:az):Option (Int × au) :=
 (if (decide ((IntKind.wrap .i64 (((a2.freed).length:Int) - 1)) < 0))=true then ((app 112 a2.l [(ah.mk (az.mk true a6.tag a6.key a6.text a6.attrs a6.parent).lives (az.mk true a6.tag a6.key a6.text a6.attrs a6.parent).tag (az.mk true a6.tag a6.key a6.text a6.attrs a6.parent).key (az.mk true a6.tag a6.key a6.text a6.attrs a6.parent).text (az.mk true a6.tag a6.key a6.text a6.attrs a6.parent).attrs [] (az.mk true a6.tag a6.key a6.text a6.attrs a6.parent).parent)]).bind fun z17=>(some (((z17).length:Int),(au.mk z17 a2.freed)))) else ((idx a2.freed (IntKind.wrap .i64 (((a2.freed).length:Int) - 1))).bind fun z38=>((cut a2.freed 0 (IntKind.wrap .i64 (((a2.freed).length:Int) - 1))).bind fun z39=>((idx a2.l (IntKind.wrap .i64 (z38 - 1))).bind fun z46=>(some (z38,(au.mk (jw a2.l (IntKind.wrap .i64 (z38 - 1)) (ah.mk (az.mk true a6.tag a6.key a6.text a6.attrs a6.parent).lives (az.mk true a6.tag a6.key a6.text a6.attrs a6.parent).tag (az.mk true a6.tag a6.key a6.text a6.attrs a6.parent).key (az.mk true a6.tag a6.key a6.text a6.attrs a6.parent).text (az.mk true a6.tag a6.key a6.text a6.attrs a6.parent).attrs [] (az.mk true a6.tag a6.key a6.text a6.attrs a6.parent).parent)) z39)))))))
def jm (n:Nat) (a2:au) (a6:Str):Option (Int × au) :=
 ((jb n a2 (az.mk false [] [] a6 [] 0)).bind fun z7=>(some (z7.1,z7.2)))
def fT (n:Nat) (a2:au) (a6:Str) (a7:Str):Option (Int × au) :=
 (if (a6 == [])=true then ((jm n a2 []).bind fun z9=>(some (z9.1,z9.2))) else ((jb n a2 (az.mk false a6 a7 [] [] 0)).bind fun z16=>(some (z16.1,z16.2))))
def qU (n:Nat)  : Option (Option au) :=
 ((fT n (au.mk [] []) [114,111,111,116] []).bind fun z7=>(some (some z7.2)))
def fu (x17:Int) (again18:(List Int)→Int→Option (List Int)) (x22:(List Int)):Option (List Int) :=
 (again18 (x22) ((IntKind.wrap .i64 (x17 + 1))))
def bW (a2:au):Nat→(List Int)→Int→Option (List Int)
 | 0,_,_=>none
 | k18 + 1,x15,x17 =>
  (if (decide (x17 < ((a2.l).length:Int)))=true then ((idx a2.l x17).bind fun z25=>(if ((z25.lives && (z25.parent == 0)) && ((IntKind.wrap .i64 (x17 + 1)) != 1))=true then ((app 8 x15 [(IntKind.wrap .i64 (x17 + 1))]).bind fun z34=>(fu x17 (bW a2 k18) (z34))) else (fu x17 (bW a2 k18) (x15)))) else (some x15))
def jD (n:Nat) (a2:au):Option (List Int) :=
 (bW a2 n ([]) (0))
def fF (n:Nat) (a2:au) (a6:Int):Option Bool :=
 ((if ((decide (a6 < 1)) || (decide (((a2.l).length:Int) < a6)))=true then some true else ((idx a2.l (IntKind.wrap .i64 (a6 - 1))).bind fun z8=>(some (!z8.lives)))).bind fun z9=>(if z9=true then (some false) else ((idx a2.l (IntKind.wrap .i64 (a6 - 1))).bind fun z12=>(some true))))
def gm (n:Nat) (a1:(List Int)):Option (List Int):=app 8 [] a1
def fV (n:Nat) (a2:au) (a6:Int):Option (List Int) :=
 ((fF n a2 a6).bind fun z7=>(if z7=true then ((idx a2.l (IntKind.wrap .i64 (a6 - 1))).bind fun z15=>((gm n z15.kids).bind fun z16=>(some z16))) else (some [])))
def bS (n:Nat) (a1:(List Attr)):Option (List Attr):=app 32 [] a1
def dJ (self:au→Int→Option Tree) (a2:au) (z10:ah) (z16:(List Attr)):Nat→(List Tree)→Int→Option Tree
 | 0,_,_=>none
 | k41 + 1,x38,x40 =>
  (if (decide (x40 < ((z10.kids).length:Int)))=true then ((idx z10.kids x40).bind fun z43=>((self a2 z43).bind fun z48=>((app 96 x38 [z48]).bind fun z52=>((dJ self a2 z10 z16 k41) (z52) ((IntKind.wrap .i64 (x40 + 1))))))) else (some (Tree.mk z10.tag z10.key z10.text z16 x38)))
def eD:Nat→au→Int→Option Tree
 | 0,_,_=>none
 | n + 1,a2,a6 =>
  ((idx a2.l (IntKind.wrap .i64 (a6 - 1))).bind fun z10=>((bS n z10.attrs).bind fun z16=>(dJ (eD n) a2 z10 z16 n ([]) (0))))
def iE (n:Nat) (a2:au) (a6:Int):Option (Tree × Bool) :=
 ((fF n a2 a6).bind fun z10=>(if z10=true then ((idx a2.l (IntKind.wrap .i64 (a6 - 1))).bind fun z20=>((eD n a2 a6).bind fun z21=>(some (z21,true)))) else (some ((Tree.mk [] [] [] [] []),false))))
def fH (n:Nat) (a2:au):Option Int :=
 (some (IntKind.wrap .i64 (((a2.l).length:Int) - ((a2.freed).length:Int))))
def di (a2:au) (a7:Int):Nat→Int→Option Bool
 | 0,_=>none
 | k16 + 1,x15 =>
  (if ((x15 != 0) && (x15 != a7))=true then ((idx a2.l (IntKind.wrap .i64 (x15 - 1))).bind fun z19=>((di a2 a7 k16) (z19.parent))) else (some (x15 == a7)))
def iY (n:Nat) (a2:au) (a6:Int) (a7:Int):Option Bool :=
 (di a2 a7 n (a6))
def bH (a1:(List Int)) (a2:Int):Nat→Int→Option Int
 | 0,_=>none
 | k11 + 1,x10 =>
  (if (decide (x10 < ((a1).length:Int)))=true then ((idx a1 x10).bind fun z13=>(if (a2 == z13)=true then (some x10) else ((bH a1 a2 k11) ((IntKind.wrap .i64 (x10 + 1)))))) else (some (-1)))
def eX (n:Nat) (a1:(List Int)) (a2:Int):Option Int :=
 (bH a1 a2 n (0))
def dY (n:Nat) (a1:(List Int)) (a3:Int) (a4:Int):Option (List Int) :=
 ((En a1 a3 a4).bind fun z5=>(if (a3 == a4)=true then (some a1) else (some z5)))
def iT (n:Nat) (a2:au) (a6:Int):Option au :=
 ((idx a2.l (IntKind.wrap .i64 (a6 - 1))).bind fun z7=>(if (z7.parent == 0)=true then (some a2) else ((idx a2.l (IntKind.wrap .i64 (z7.parent - 1))).bind fun z9=>((idx a2.l (IntKind.wrap .i64 (z7.parent - 1))).bind fun z10=>((eX n z10.kids a6).bind fun z11=>((dY n z10.kids z11 (IntKind.wrap .i64 (z11 + 1))).bind fun z14=>((idx (jw a2.l (IntKind.wrap .i64 (z7.parent - 1)) (ah.mk z10.lives z10.tag z10.key z10.text z10.attrs z14 z10.parent)) (IntKind.wrap .i64 (a6 - 1))).bind fun z27=>(some (au.mk (jw (jw a2.l (IntKind.wrap .i64 (z7.parent - 1)) (ah.mk z10.lives z10.tag z10.key z10.text z10.attrs z14 z10.parent)) (IntKind.wrap .i64 (a6 - 1)) (ah.mk z27.lives z27.tag z27.key z27.text z27.attrs z27.kids 0)) a2.freed)))))))))
def eF (n:Nat) (a2:au) (a6:Int) (a7:Int) (a8:Int):Option (Bool × au) :=
 ((fF n a2 a6).bind fun z9=>(if z9=true then ((fF n a2 a7).bind fun z25=>(if z25=true then ((idx a2.l (IntKind.wrap .i64 (a6 - 1))).bind fun z34=>((idx a2.l (IntKind.wrap .i64 (a7 - 1))).bind fun z35=>(if ((z34.tag == []) || (a7 == 1))=true then (some (false,a2)) else ((iY n a2 a6 a7).bind fun z38=>(if z38=true then (some (false,a2)) else ((iT n a2 a7).bind fun z43=>((idx z43.l (IntKind.wrap .i64 (a6 - 1))).bind fun z49=>((EF z49.kids (sN 0 (uq a8 ((z49.kids).length:Int))) a7).bind fun z56=>((idx (jw z43.l (IntKind.wrap .i64 (a6 - 1)) (ah.mk z49.lives z49.tag z49.key z49.text z49.attrs z56 z49.parent)) (IntKind.wrap .i64 (a7 - 1))).bind fun z85=>(some (true,(au.mk (jw (jw z43.l (IntKind.wrap .i64 (a6 - 1)) (ah.mk z49.lives z49.tag z49.key z49.text z49.attrs z56 z49.parent)) (IntKind.wrap .i64 (a7 - 1)) (ah.mk z85.lives z85.tag z85.key z85.text z85.attrs z85.kids a6)) z43.freed)))))))))))) else ((idx a2.l (IntKind.wrap .i64 (a6 - 1))).bind fun z32=>(some (false,a2))))) else ((fF n a2 a7).bind fun z16=>(if z16=true then (some (false,a2)) else (some (false,a2))))))
def iR (n:Nat) (a2:au) (a6:Int) (a7:(List Attr)):Option (Bool × au) :=
 ((fF n a2 a6).bind fun z8=>(if z8=true then ((idx a2.l (IntKind.wrap .i64 (a6 - 1))).bind fun z16=>(if (z16.tag == [])=true then (some (false,a2)) else ((bS n a7).bind fun z18=>(some (true,(au.mk (jw a2.l (IntKind.wrap .i64 (a6 - 1)) (ah.mk z16.lives z16.tag z16.key z16.text z18 z16.kids z16.parent)) a2.freed)))))) else (some (false,a2))))
def fK (n:Nat) (self:au→Tree→Option (Int × au)) (a6:Tree) (z18:(Int × au)):Nat→au→Int→Option (Int × au)
 | 0,_,_=>none
 | k47 + 1,x42,x46 =>
  (if (decide (x46 < ((a6.Kids).length:Int)))=true then ((idx a6.Kids x46).bind fun z49=>((self x42 z49).bind fun z55=>((eF n z55.2 z18.1 z55.1 x46).bind fun z62=>((fK n self a6 z18 k47) (z62.2) ((IntKind.wrap .i64 (x46 + 1))))))) else (some (z18.1,x42)))
def gD:Nat→au→Tree→Option (Int × au)
 | 0,_,_=>none
 | n + 1,a2,a6 =>
  (if (a6.Tag == [])=true then ((jm n a2 a6.Text).bind fun z11=>(some (z11.1,z11.2))) else ((fT n a2 a6.Tag a6.Key).bind fun z18=>((iR n z18.2 z18.1 a6.aV).bind fun z25=>(fK n (gD n) a6 z18 n (z25.2) (0)))))
def kV (n:Nat) (a2:au) (a6:Int) (a7:Str):Option (Bool × au) :=
 ((fF n a2 a6).bind fun z8=>(if z8=true then ((idx a2.l (IntKind.wrap .i64 (a6 - 1))).bind fun z16=>(if (!(z16.tag == []))=true then (some (false,a2)) else (some (true,(au.mk (jw a2.l (IntKind.wrap .i64 (a6 - 1)) (ah.mk z16.lives z16.tag z16.key a7 z16.attrs z16.kids z16.parent)) a2.freed))))) else (some (false,a2))))
def mf (n:Nat) (a1:Tree):Option aR :=
 (some (aR.mk a1.Tag a1.Key))
def gK (x82:Int) (again83:(List (aR × List Int))→(List Int)→Int→Option (List Int)) (x87:(List (aR × List Int))) (x89:(List Int)):Option (List Int) :=
 (again83 (x87) (x89) ((IntKind.wrap .i64 (x82 + 1))))
def dA (n:Nat) (a2:(List Tree)):Nat→(List (aR × List Int))→(List Int)→Int→Option (List Int)
 | 0,_,_,_=>none
 | k83 + 1,x78,x80,x82 =>
  (if (decide (x82 < ((a2).length:Int)))=true then ((idx a2 x82).bind fun z92=>((mf n z92).bind fun z98=>(if (((fe x78 z98 []).length:Int) == 0)=true then ((app 8 x80 [(-1)]).bind fun z104=>(gK x82 (dA n a2 k83) (x78) (z104))) else ((idx (fe x78 z98 []) 0).bind fun z110=>((app 8 x80 [z110]).bind fun z115=>((mf n z92).bind fun z121=>((cut (fe x78 z98 []) 1 ((fe x78 z98 []).length:Int)).bind fun z122=>(gK x82 (dA n a2 k83) ((iD x78 z98 z122)) (z115))))))))) else (some x80))
def eP (n:Nat) (a1:(List Tree)) (a2:(List Tree)):Nat→(List (aR × List Int))→Int→Option (List Int)
 | 0,_,_=>none
 | k20 + 1,x17,x19 =>
  (if (decide (x19 < ((a1).length:Int)))=true then ((idx a1 x19).bind fun z22=>((mf n z22).bind fun z28=>((app 8 (fe x17 z28 []) [x19]).bind fun z36=>((eP n a1 a2 k20) ((iD x17 z28 z36)) ((IntKind.wrap .i64 (x19 + 1))))))) else (dA n a2 n (x17) ([]) (0)))
def mO (n:Nat) (a1:(List Tree)) (a2:(List Tree)):Option (List Int) :=
 (eP n a1 a2 n ([]) (0))
def ja (n:Nat) (a2:au) (a6:Int):Option (Bool × au) :=
 ((fF n a2 a6).bind fun z7=>(if z7=true then ((idx a2.l (IntKind.wrap .i64 (a6 - 1))).bind fun z15=>(if (z15.parent == 0)=true then (some (false,a2)) else ((iT n a2 a6).bind fun z17=>(some (true,z17))))) else (some (false,a2))))
def dK (self:au→Int→Option au) (z7:ah):Nat→au→Int→Option au
 | 0,_,_=>none
 | k42 + 1,x38,x41 =>
  (if (decide (x41 < ((z7.kids).length:Int)))=true then ((idx z7.kids x41).bind fun z44=>((self x38 z44).bind fun z45=>((dK self z7 k42) (z45) ((IntKind.wrap .i64 (x41 + 1)))))) else (some x38))
def eT:Nat→au→Int→Option au
 | 0,_,_=>none
 | n + 1,a2,a6 =>
  ((idx a2.l (IntKind.wrap .i64 (a6 - 1))).bind fun z7=>((app 8 a2.freed [a6]).bind fun z20=>(dK (eT n) z7 n ((au.mk (jw a2.l (IntKind.wrap .i64 (a6 - 1)) (ah.mk (az.mk false [] [] [] [] 0).lives (az.mk false [] [] [] [] 0).tag (az.mk false [] [] [] [] 0).key (az.mk false [] [] [] [] 0).text (az.mk false [] [] [] [] 0).attrs [] (az.mk false [] [] [] [] 0).parent)) z20)) (0))))
def jY (n:Nat) (a2:au) (a6:Int):Option (Bool × au) :=
 ((fF n a2 a6).bind fun z7=>(if z7=true then ((idx a2.l (IntKind.wrap .i64 (a6 - 1))).bind fun z15=>(if ((a6 == 1) || (z15.parent != 0))=true then (some (false,a2)) else ((eT n a2 a6).bind fun z18=>(some (true,z18))))) else (some (false,a2))))
def lF (n:Nat) (a2:au):Option Int :=
 (some 1)
def jG (n:Nat) (a2:au) (a6:Int):Option (Int × au) :=
 ((lF n a2).bind fun z7=>(if (a6 == z7)=true then (some (0,a2)) else ((fH n a2).bind fun z12=>((ja n a2 a6).bind fun z16=>((jY n z16.2 a6).bind fun z22=>((fH n z22.2).bind fun z28=>(some ((IntKind.wrap .i64 (z12 - z28)),z22.2))))))))
def eO (n:Nat) (a2:au) (a6:(List Int)):Nat→(List Tree)→Int→Option (List Tree)
 | 0,_,_=>none
 | k19 + 1,x16,x18 =>
  (if (decide (x18 < ((a6).length:Int)))=true then ((idx a6 x18).bind fun z21=>((iE n a2 z21).bind fun z22=>((app 96 x16 [z22.1]).bind fun z31=>((eO n a2 a6 k19) (z31) ((IntKind.wrap .i64 (x18 + 1))))))) else (some x16))
def lX (n:Nat) (a2:au) (a6:(List Int)):Option (List Tree) :=
 (eO n a2 a6 n ([]) (0))
def gJ (x32:Int) (again33:(List Int)→Int→Option (List Int)) (x37:(List Int)):Option (List Int) :=
 (again33 (x37) ((IntKind.wrap .i64 (x32 + 1))))
def dx (a1:Int) (x14:(List (Int × Int))):Nat→(List Int)→Int→Option (List Int)
 | 0,_,_=>none
 | k33 + 1,x30,x32 =>
  (if (decide (x32 < (sN a1 0)))=true then (if ((fe x14 x32 0) == 0)=true then ((app 8 x30 [x32]).bind fun z41=>(gJ x32 (dx a1 x14 k33) (z41))) else (gJ x32 (dx a1 x14 k33) (x30))) else (some x30))
def fq (n:Nat) (a1:Int) (a2:(List Int)):Nat→(List (Int × Int))→Int→Option (List Int)
 | 0,_,_=>none
 | k16 + 1,x14,x15 =>
  (if (decide (x15 < ((a2).length:Int)))=true then ((idx a2 x15).bind fun z18=>((fq n a1 a2 k16) ((iD x14 z18 (IntKind.wrap .i64 ((fe x14 z18 0) + 1)))) ((IntKind.wrap .i64 (x15 + 1))))) else (dx a1 x14 n ([]) (0)))
def mg (n:Nat) (a1:Int) (a2:(List Int)):Option (List Int) :=
 (fq n a1 a2 n ([]) (0))
def gL (x88:Int) (again89:au→Int→Option (Bool × au)) (x93:au):Option (Bool × au) :=
 (again89 (x93) ((IntKind.wrap .i64 (x88 + 1))))
def cB (n:Nat) (self:au→Int→Tree→Option (Bool × au)) (a6:Int) (a7:Tree) (z36:(List Int)) (z44:(List Int)):Nat→au→Int→Option (Bool × au)
 | 0,_,_=>none
 | k89 + 1,x84,x88 =>
  (if (decide (x88 < ((a7.Kids).length:Int)))=true then ((idx a7.Kids x88).bind fun z98=>((idx z44 x88).bind fun z104=>(if (decide (z104 < 0))=true then ((gD n x84 z98).bind fun z106=>((eF n z106.2 a6 z106.1 x88).bind fun z113=>(gL x88 (cB n self a6 a7 z36 z44 k89) (z113.2)))) else ((idx z44 x88).bind fun z119=>((idx z36 z119).bind fun z120=>((eF n x84 a6 z120 x88).bind fun z121=>((idx z44 x88).bind fun z127=>((idx z36 z127).bind fun z128=>((self z121.2 z128 z98).bind fun z129=>(gL x88 (cB n self a6 a7 z36 z44 k89) (z129.2))))))))))) else (some (true,x84)))
def eU (n:Nat) (self:au→Int→Tree→Option (Bool × au)) (a6:Int) (a7:Tree) (z36:(List Int)) (z44:(List Int)) (z48:(List Int)):Nat→au→Int→Option (Bool × au)
 | 0,_,_=>none
 | k63 + 1,x59,x62 =>
  (if (decide (x62 < ((z48).length:Int)))=true then ((idx z48 x62).bind fun z65=>((idx z36 z65).bind fun z66=>((jG n x59 z66).bind fun z67=>((eU n self a6 a7 z36 z44 z48 k63) (z67.2) ((IntKind.wrap .i64 (x62 + 1))))))) else (cB n self a6 a7 z36 z44 n (x59) (0)))
def dP:Nat→au→Int→Tree→Option (Bool × au)
 | 0,_,_,_=>none
 | n + 1,a2,a6,a7 =>
  ((iE n a2 a6).bind fun z11=>(if (((!z11.2) || (!(z11.1.Tag == a7.Tag))) || (!(z11.1.Key == a7.Key)))=true then (some (false,a2)) else (if (a7.Tag == [])=true then ((kV n a2 a6 a7.Text).bind fun z24=>(some (z24.1,z24.2))) else ((iR n a2 a6 a7.aV).bind fun z30=>((fV n z30.2 a6).bind fun z36=>((lX n z30.2 z36).bind fun z40=>((mO n z40 a7.Kids).bind fun z44=>((mg n ((z36).length:Int) z44).bind fun z48=>(eU n (dP n) a6 a7 z36 z44 z48 n (z30.2) (0))))))))))
def bz (a1:(List Attr)) (a2:(List Attr)):Nat→Int→Option Bool
 | 0,_=>none
 | k12 + 1,x11 =>
  (if (decide (x11 < ((a1).length:Int)))=true then ((idx a1 x11).bind fun z14=>((idx a2 x11).bind fun z15=>(if (!(Attr.beq z14 z15))=true then (some false) else ((bz a1 a2 k12) ((IntKind.wrap .i64 (x11 + 1))))))) else (some true))
def dL (n:Nat) (a1:(List Attr)) (a2:(List Attr)):Option Bool :=
 (if (((a1).length:Int) != ((a2).length:Int))=true then (some false) else (bz a1 a2 n (0)))
def bY (self:Tree→Tree→Option Bool) (a1:Tree) (a2:Tree):Nat→Int→Option Bool
 | 0,_=>none
 | k24 + 1,x23 =>
  (if (decide (x23 < ((a1.Kids).length:Int)))=true then ((idx a1.Kids x23).bind fun z26=>((idx a2.Kids x23).bind fun z27=>((self z26 z27).bind fun z28=>(if (!z28)=true then (some false) else ((bY self a1 a2 k24) ((IntKind.wrap .i64 (x23 + 1)))))))) else (some true))
def cu:Nat→Tree→Tree→Option Bool
 | 0,_,_=>none
 | n + 1,a1,a2 =>
  ((if (((!(a1.Tag == a2.Tag)) || (!(a1.Key == a2.Key))) || (!(a1.Text == a2.Text)))=true then some true else ((dL n a1.aV a2.aV).bind fun z11=>(some (!z11)))).bind fun z12=>(if (z12 || (((a1.Kids).length:Int) != ((a2.Kids).length:Int)))=true then (some false) else (bY (cu n) a1 a2 n (0))))
def dS (a2:Int) (x7:Int):Option Int :=
 (some (IntKind.wrap .i64 (a2 + x7)))
def gH (n:Nat) (a1:Int) (a2:Int) (a3:Int):Option Int :=
 ((EL .i64 a1 (IntKind.wrap .i64 ((IntKind.wrap .i64 (a3 - a2)) + 1))).bind fun z4=>(if (decide (z4 < 0))=true then (dS a2 ((IntKind.wrap .i64 ((IntKind.wrap .i64 ((IntKind.wrap .i64 (z4 + a3)) - a2)) + 1)))) else (dS a2 (z4))))
def bT (x22:Int) (again23:(List (Int × Bool))→(List Tree)→(List Int)→Int→Option ((List Tree) × (List Int))) (x28:(List (Int × Bool))) (x29:(List Tree)) (x31:(List Int)):Option ((List Tree) × (List Int)) :=
 (again23 (x28) (x29) (x31) ((IntKind.wrap .i64 (x22 + 1))))
def aW (n:Nat) (a1:(List Int)):Nat→(List (Int × Bool))→(List Tree)→(List Int)→Int→Option ((List Tree) × (List Int))
 | 0,_,_,_,_=>none
 | k23 + 1,x17,x18,x20,x22 =>
  (if ((decide (x22 < ((a1).length:Int))) && (decide (x22 < 9)))=true then ((idx a1 x22).bind fun z34=>((gH n z34 0 9).bind fun z35=>(if (!(fe x17 z35 false))=true then ((app 8 x20 [z35]).bind fun z39=>((app 96 x18 [(Tree.mk [108,105] (([(IntKind.wrap .u8 (IntKind.wrap .i64 (48 + z35)))]).map fun (n:Int)=>UInt8.ofNat n.toNat) [] [] [(Tree.mk [] [] (([(IntKind.wrap .u8 (IntKind.wrap .i64 (97 + z35)))]).map fun (n:Int)=>UInt8.ofNat n.toNat) [] [])])]).bind fun z43=>(bT x22 (aW n a1 k23) ((iD x17 z35 true)) (z43) (z39)))) else (bT x22 (aW n a1 k23) (x17) (x18) (x20))))) else (some (x18,x20)))
def dD (n:Nat) (a1:(List Int)):Option ((List Tree) × (List Int)) :=
 (aW n a1 n ([]) ([]) ([]) (0))
def bg (x47:au) (x50:Bool):Option Bool :=
 (some x50)
def fZ (n:Nat)  : Option Bool :=
 ((qU n).bind fun z1=>(FX z1 (some false) (fun x7=>((gD n x7 (Tree.mk [117,108] [] [] [] [(Tree.mk [108,105] [49] [] [] []),(Tree.mk [108,105] [50] [] [] [])])).bind fun z23=>((fV n z23.2 z23.1).bind fun z30=>((dP n z23.2 z23.1 (Tree.mk [117,108] [] [] [] [(Tree.mk [108,105] [50] [] [] []),(Tree.mk [108,105] [49] [] [] [])])).bind fun z34=>((fV n z34.2 z23.1).bind fun z41=>(if (z23.1 == 2)=true then (if z34.1=true then (if (((z30).length:Int) == 2)=true then (if (((z41).length:Int) == 2)=true then ((idx z30 0).bind fun z56=>((idx z41 1).bind fun z57=>(if (z56 == z57)=true then ((idx z30 1).bind fun z59=>((idx z41 0).bind fun z60=>(if (z59 == z60)=true then ((jG n z34.2 z23.1).bind fun z62=>(if (z62.1 == 3)=true then ((fH n z62.2).bind fun z69=>(bg (z62.2) ((z69 == 1)))) else (bg (z62.2) (false)))) else (bg (z34.2) (false))))) else (bg (z34.2) (false))))) else (bg (z34.2) (false))) else (bg (z34.2) (false))) else (bg (z34.2) (false))) else (bg (z34.2) (false))))))))))
def df (x68:Int) (again69:Int→Option Bool) (x88:Bool):Option Bool :=
 (if x88=true then (some false) else (again69 ((IntKind.wrap .i64 (x68 + 1)))))
def aU (n:Nat) (z4:((List Tree) × (List Int))) (z29:(Bool × au)) (z37:(List Int)) (x53:(List (Int × Int))):Nat→Int→Option Bool
 | 0,_=>none
 | k69 + 1,x68 =>
  (if (decide (x68 < ((z4.2).length:Int)))=true then ((idx z4.2 x68).bind fun z71=>((if (oq x53 z71).isSome=true then ((idx z37 x68).bind fun z72=>(some (z72 != (fe x53 z71 0)))) else some false).bind fun z73=>(if z73=true then (some false) else ((idx z37 x68).bind fun z76=>((iE n z29.2 z76).bind fun z77=>(if (!z77.2)=true then (df x68 (aU n z4 z29 z37 x53 k69) (true)) else ((idx z4.1 x68).bind fun z92=>((cu n z77.1 z92).bind fun z93=>(df x68 (aU n z4 z29 z37 x53 k69) ((!z93))))))))))) else ((fH n z29.2).bind fun z94=>(if (z94 == (IntKind.wrap .i64 (2 + (IntKind.wrap .i64 (2 * ((z4.2).length:Int))))))=true then ((jD n z29.2).bind fun z99=>((if (((z99).length:Int) == 1)=true then ((fZ n).bind fun z103=>(some z103)) else some false).bind fun z104=>(some z104))) else (some false))))
def bJ (n:Nat) (z3:((List Tree) × (List Int))) (z4:((List Tree) × (List Int))) (z24:(List Int)) (z29:(Bool × au)) (z37:(List Int)):Nat→(List (Int × Int))→Int→Option Bool
 | 0,_,_=>none
 | k55 + 1,x53,x54 =>
  (if (decide (x54 < ((z3.2).length:Int)))=true then ((idx z3.2 x54).bind fun z57=>((idx z24 x54).bind fun z58=>((bJ n z3 z4 z24 z29 z37 k55) ((iD x53 z57 z58)) ((IntKind.wrap .i64 (x54 + 1)))))) else (aU n z4 z29 z37 x53 n (0)))
def gM (n:Nat) (a1:(List Int)) (a2:(List Int)):Option Bool :=
 ((dD n a1).bind fun z3=>((dD n a2).bind fun z4=>((qU n).bind fun z5=>(FX z5 (some false) (fun x11=>((gD n x11 (Tree.mk [117,108] [] [] [] z3.1)).bind fun z17=>((fV n z17.2 z17.1).bind fun z24=>(if (((z24).length:Int) != ((z3.2).length:Int))=true then (some false) else ((dP n z17.2 z17.1 (Tree.mk [117,108] [] [] [] z4.1)).bind fun z29=>(if (!z29.1)=true then (some false) else ((fV n z29.2 z17.1).bind fun z37=>(if (((z37).length:Int) != ((z4.2).length:Int))=true then (some false) else (bJ n z3 z4 z24 z29 z37 n ([]) (0))))))))))))))
end Pr
end Go.Ev

import Derived.Test.YtdelaagbhhnniaaGreatDoorEvDraw2
import Derived.Laws.IdiomRangeMap
namespace Go.Ev
set_option linter.unusedVariables false
set_option linter.unusedSimpArgs false

theorem run_next_at {P : Program} {w : World} (ty b bm since c0 : Nat) (seen : Array Nat) (es : Array MapEntry) (clock : Nat) (hb : w.heap[b]? = some (.mapIter (some bm) since seen c0)) (hm : w.heap[bm]? = some (.map es clock))
    (hold : ∀ x ∈ es.toList, x.born < since) (hsc : since ≤ c0) :
    ((∀ e ∈ es.toList, seen.contains e.born = true) ∧ (Instr.next (.pointer (some ⟨b, 0, none⟩)) false ty).run P w = .ok (.tuple #[.bool false]) w) ∨
    ∃ e ∈ es.toList, seen.contains e.born = false ∧ ∃ w1 : World, w1.heap = w.heap ∧ w1.os = w.os ∧ w1.output = w.output ∧ w1.tape = w.tape ∧
      (Instr.next (.pointer (some ⟨b, 0, none⟩)) false ty).run P w = .ok (.tuple #[.bool true, e.key, e.val]) { w1 with heap := w1.heap.setIfInBounds b (.mapIter (some bm) since (seen.push e.born) clock) } := by
  simp only [Instr.next, getObj, Sem.run_bind, Sem.run, hb, hm, Result.andThen, next_test_false seen es since c0 hold hsc, Bool.false_eq_true, if_false]
  have hmem : ∀ x ∈ (Array.filter (fun e => !seen.contains e.born) es).toList, x ∈ es.toList ∧ seen.contains x.born = false := fun x hx => by
    simp at hx ⊢
    exact hx
  have hemp : Array.filter (fun e => !seen.contains e.born) es = #[] → ∀ e ∈ es.toList, seen.contains e.born = true := fun h e he => by
    rw [Array.filter_eq_empty_iff] at h
    have := h e (by simpa using he)
    simpa using this
  generalize Array.filter (fun e => !seen.contains e.born) es = L at hmem hemp ⊢
  have e1 : L.filter (fun x => decide (x.born < since)) = L := Array.filter_eq_self.2 (fun x hx => by simpa using hold x (hmem x (by simpa using hx)).1)
  have e2 : L.filter (fun x => decide (x.born ≥ since)) = #[] := by
    rw [Array.filter_eq_empty_iff]
    intro x hx
    have := hold x (hmem x (by simpa using hx)).1
    simp
    omega
  simp only [e1, e2, Array.append_empty]
  by_cases h0 : L.size = 0
  · left
    have : L = #[] := Array.eq_empty_of_size_eq_zero h0
    subst this
    refine ⟨hemp rfl, ?_⟩
    simp [choose, Sem.run, Question.forced]
  · right
    have hne : L.isEmpty = false := by simp [Array.isEmpty, h0]
    simp only [hne, Bool.false_eq_true, if_false, Array.empty_append, Array.size_map]
    have hch : ∃ (j : Nat) (w1 : World), j < L.size ∧ (w1.heap = w.heap ∧ w1.os = w.os ∧ w1.output = w.output ∧ w1.tape = w.tape) ∧ (choose (Question.mapNext L.size)).run P w = .ok j w1 := by
      by_cases hf : L.size ≤ 1
      · exact ⟨0, w, by omega, ⟨rfl, rfl, rfl, rfl⟩, by simp [choose, Sem.run, Question.forced, hf]⟩
      · exact ⟨_, w.drew, Nat.mod_lt _ (by omega), ⟨rfl, rfl, rfl, rfl⟩, by
          simp only [choose, Sem.run, Question.forced, decide_eq_true_eq, hf, if_false, Question.cut]
          rfl⟩
    obtain ⟨j, w1, hj, hal, hrun⟩ := hch
    have hLj : L[j] ∈ L.toList := by simp
    refine ⟨L[j], (hmem _ hLj).1, (hmem _ hLj).2, w1, hal.1, hal.2.1, hal.2.2.1, hal.2.2.2, ?_⟩
    have hlt : b < w1.heap.size := by rw [hal.1]; exact (Array.getElem?_eq_some_iff.1 hb).1
    have hb1 : w1.heap[b]? = some (.mapIter (some bm) since seen c0) := by rw [hal.1]; exact hb
    have hset : ∀ (o' : Obj), (setObj b o').run P w1 = .ok () { w1 with heap := w1.heap.setIfInBounds b o' } := fun o' => by
      simp only [setObj, Sem.run, hb1]
      try rfl
    simp only [hrun, Array.getElem?_map, Array.getElem?_eq_getElem hj, Option.map_some, Sem.run_bind, hset, Result.andThen]
    rfl

theorem run_next_nil {P : Program} {w : World} (ty b : Nat) (hb : w.heap[b]? = some (.mapIter none 0 #[] 0)) :
    (Instr.next (.pointer (some ⟨b, 0, none⟩)) false ty).run P w = .ok (.tuple #[.bool false]) w := by
  simp only [Instr.next, getObj, Sem.run_bind, Sem.run, hb, Result.andThen]
  rfl

/-- What is asked of what makes calls that may come to several things. -/
def HandOkL (R : ObjR) (P : Program) (h : HandL) : Prop :=
  ∀ f args S rs, h f args S = some rs → (∃ fn, P.funcs[f]? = some fn ∧ fn.body.isSome = true ∧ fn.name ≠ "runtime.NumGoroutine") ∧
    ∀ cx w (us : List Value), SRel R cx S w → us.length = args.length → (∀ (i : Nat) (x : AV) (u : Value), args[i]? = some x → us[i]? = some u → ARel cx S w x u) →
    Calls P f us.toArray w (fun e w' => ∃ r ∈ rs, ∃ cx', SRel R cx' r.2.2 w' ∧ Ext cx S w cx' r.2.2 w' ∧ EndOk cx' r.2.2 w' r.1 r.2.1 e)

theorem noHand_ok {R : ObjR} {P : Program} : HandOk R P noHand := fun f args S p v S' h => by cases h

theorem det_ok {R : ObjR} {P : Program} {h : HandL} (hh : HandOkL R P h) : HandOk R P (det h) := by
  intro f args S p v S' hd
  unfold det at hd
  split at hd
  · rename_i r hr
    simp only [Option.some.injEq] at hd
    subst hd
    obtain ⟨h1, h2⟩ := hh f args S _ hr
    refine ⟨h1, fun cx w us hS hl hu => (h2 cx w us hS hl hu).mono fun e w' he => ?_⟩
    obtain ⟨r', hr', cx', k⟩ := he
    simp only [List.mem_singleton] at hr'
    subst hr'
    exact ⟨cx', k⟩
  · cases hd

theorem mapO_mem {α β : Type} {f : α → Option β} : ∀ {l : List α} {rs : List β}, mapO f l = some rs → ∀ x ∈ l, ∃ r, f x = some r ∧ r ∈ rs
  | [], _, _, x, hx => by cases hx
  | y :: l, rs, h, x, hx => by
    simp only [mapO] at h
    split at h
    · rename_i z hz
      simp only [Option.map_eq_some_iff] at h
      obtain ⟨zs, hzs, rfl⟩ := h
      rcases List.mem_cons.1 hx with rfl | hx
      · exact ⟨z, hz, by simp⟩
      · obtain ⟨r, h1, h2⟩ := mapO_mem hzs x hx
        exact ⟨r, h1, List.mem_cons_of_mem _ h2⟩
    · cases h

theorem bindL_mem {α β : Type} {f : α → Option (List β)} : ∀ {l : List α} {rs : List β}, bindL f l = some rs → ∀ x ∈ l, ∃ r, f x = some r ∧ ∀ y ∈ r, y ∈ rs
  | [], _, _, x, hx => by cases hx
  | y :: l, rs, h, x, hx => by
    simp only [bindL] at h
    split at h
    · rename_i z hz
      split at h
      · rename_i zs hzs
        simp only [Option.some.injEq] at h
        subst h
        rcases List.mem_cons.1 hx with rfl | hx
        · exact ⟨z, hz, fun y hy => List.mem_append.2 (.inl hy)⟩
        · obtain ⟨r, h1, h2⟩ := bindL_mem hzs x hx
          exact ⟨r, h1, fun y hy => List.mem_append.2 (.inr (h2 y hy))⟩
      · cases h
    · cases h

/-- One step of an iterator. -/
theorem next_sound {R : ObjR} {C : Cfg} (hR : ObjOkC R C) {cx : Cx} {S : St} {w : World} {nt : Nat} {e : Env} {a : Act} {ops : Array Oper} {o : Oper} {t : Nat} {rs : List Stp} (hop : o.op = .next (.tmp t) false)
    (hs : nextL nt o t e S = some rs) (hS : SRel R cx S w) (he : ERel cx S w nt e a) {K : Act → World → Prop} {Q : Exit → Act → World → Prop} (hk : ∀ r ∈ rs, After R cx S w nt a K Q r) {i : Nat} (hi : ops[i]? = some o) :
    wpOp C.P ops Q i K a w := by
  unfold nextL at hs
  have hrefl := Ext.refl (cx := cx) w hS.wf
  have enter : o.guard = none → (∃ v w', (Instr.next (a.eval (.tmp t)) false o.type).run C.P w = .ok v w' ∧ K (a.put o.dst v) w') → wpOp C.P ops Q i K a w := by
    intro hg ⟨v, w', h1, h2⟩
    unfold wpOp
    rw [hi]
    simp only
    rw [if_pos (by unfold Region.wanted; rw [hg])]
    left
    unfold Oper.wp
    have hq : (execOp a.eval o).run C.P w = .ok (.value v) w' := by
      obtain ⟨dst, op, ty, pos, after, guard⟩ := o
      simp only at hop
      subst hop
      exact exV h1
    rw [hq]
    exact h2
  split at hs
  · rename_i k g since seen st hg ht
    split at hs
    · rename_i c hc
      split at hs
      · rename_i hcg
        subst hcg
        simp only [Option.map_eq_some_iff] at hs
        obtain ⟨e', hp, rfl⟩ := hs
        obtain ⟨u, h1, h2⟩ := he.rel t _ ht
        have hev : a.eval (.tmp t) = u := by simp [Act.eval, h1]
        cases h2 with
        | it0 _ _ _ _ b _ hn hpos =>
        obtain ⟨_, _, _, hb⟩ := hpos hc
        refine enter hg ⟨.tuple #[.bool false], w, ?_, ?_⟩
        · rw [hev]; exact run_next_nil _ b hb
        · refine hk (.go e' S) (by simp) cx _ w hS hrefl (he.put hp ?_) (put_defers _ _ _)
          refine .tup [.d (.bool false)] [.bool false] rfl (fun j x u hx hu => ?_)
          match j, hx, hu with
          | 0, hx, hu => simp at hx hu; subst hx; subst hu; exact .of_bool _
      · cases hs
    · cases hs
  · rename_i k g id since seen st hg ht
    split at hs
    · rename_i M c hM hc
      split at hs
      · rename_i hcond
        obtain ⟨hcg, hold, hsc, hnt⟩ := hcond
        subst hcg
        obtain ⟨u, h1, h2⟩ := he.rel t _ ht
        have hev : a.eval (.tmp t) = u := by simp [Act.eval, h1]
        have hidk : id ≠ k := fun q => by subst q; rw [hM] at hc; cases hc
        cases h2 with
        | it _ _ _ _ _ b m _ hn hni hm hpos =>
        have hkg : isIt S k g := hc
        obtain ⟨hbk, hfk, honly, hb⟩ := hpos hkg
        have hm := hm (by simp [cur, hM])
        obtain ⟨c1, c2, ms, clk, c3, ⟨c4, c4', c4''⟩, c5⟩ := hS.maps id M hM
        rw [← hm] at c3
        have hborn : ∀ x ∈ ms.toList, ∃ (j : Nat) (p : D × AV × Nat), M.es[j]? = some p ∧ ms[j]? = some x ∧ x.born = p.2.2 := fun x hx => by
          obtain ⟨j, hj, rfl⟩ := List.getElem_of_mem hx
          have hj' : j < ms.size := by simpa using hj
          have hjm : j < M.es.length := by rw [← c4]; exact hj'
          have hp := List.getElem?_eq_getElem hjm
          refine ⟨j, M.es[j], hp, by simp [hj'], ?_⟩
          exact c4'' j _ _ hp (by simp [hj'])
        have holdm : ∀ x ∈ ms.toList, x.born < since := fun x hx => by
          obtain ⟨j, p, p1, p2, p3⟩ := hborn x hx
          rw [p3]
          exact Nat.le_of_ble_eq_true (List.all_eq_true.1 hold p (List.mem_of_getElem? p1))
        rcases run_next_at (P := C.P) o.type b m since st seen.toArray ms clk hb c3 holdm hsc with ⟨r1, r2⟩ | ⟨x, r1, r2, w1, r3, r4, r5, r6, r7⟩
        · -- nothing is left
          have hnil : M.es.filter (fun p => !(seen.contains p.2.2)) = [] := by
            rw [List.filter_eq_nil_iff]
            intro p hp
            obtain ⟨j, hj, rfl⟩ := List.getElem_of_mem hp
            have hjm : j < ms.size := by rw [c4]; exact hj
            have hb2 := c4'' j _ _ (List.getElem?_eq_getElem hj) (Array.getElem?_eq_getElem hjm)
            have := r1 ms[j] (by simp)
            rw [hb2] at this
            simpa using this
          rw [hnil] at hs
          simp only [Option.map_eq_some_iff] at hs
          obtain ⟨e', hp, rfl⟩ := hs
          refine enter hg ⟨.tuple #[.bool false], w, by rw [hev]; exact r2, ?_⟩
          refine hk (.go e' S) (by simp) cx _ w hS hrefl (he.put hp ?_) (put_defers _ _ _)
          refine .tup [.d (.bool false)] [.bool false] rfl (fun j x u hx hu => ?_)
          match j, hx, hu with
          | 0, hx, hu => simp at hx hu; subst hx; subst hu; exact .of_bool _
        · obtain ⟨j, p, p1, p2, p3⟩ := hborn x r1
          have hpm : p ∈ M.es.filter (fun p => !(seen.contains p.2.2)) := by
            rw [List.mem_filter]
            refine ⟨List.mem_of_getElem? p1, ?_⟩
            rw [p3] at r2
            simpa using r2
          have hs' : mapO (fun p : D × AV × Nat => (Env.put nt ((t, .it k (g + 1) (some id) since (seen ++ [p.2.2]) M.clk) :: e) o.dst (.tup [.d (.bool true), .d p.1, p.2.1])).map fun e' =>
            Stp.go e' { S with H := S.H.set k (.obj 3 (.int .i64 ((g + 1 : Nat) : Int))) }) (M.es.filter (fun p => !(seen.contains p.2.2))) = some rs := by
            split at hs
            · rename_i hnil; rw [hnil] at hpm; cases hpm
            · exact hs
          obtain ⟨rr, q1, q2⟩ := mapO_mem hs' p hpm
          simp only [Option.map_eq_some_iff] at q1
          obtain ⟨e', hp, rfl⟩ := q1
          -- the state behind it
          generalize hS' : ({ S with H := S.H.set k (.obj 3 (.int .i64 ((g + 1 : Nat) : Int))) } : St) = S' at hp q2
          generalize hw' : ({ w1 with heap := w1.heap.setIfInBounds b (.mapIter (some m) since (seen.toArray.push x.born) clk) } : World) = w' at r7
          have hget : S'.H.get k = some (.obj 3 (.int .i64 ((g + 1 : Nat) : Int))) := by rw [← hS']; simp [AL.get_set]
          have hheap : w'.heap = w.heap.setIfInBounds b (.mapIter (some m) since (seen.toArray.push x.born) clk) := by rw [← hw', ← r3]
          have hblt : b < w.heap.size := heap_lt hb
          have hsz : w'.heap.size = w.heap.size := by rw [hheap]; simp
          have hfpk : ∀ c, cx.fp k c ↔ c = b := by
            have := ((hR.toObjOk.it _ _ _ _).1 (hS.objs k 3 _ hc).1).2
            intro c; rw [this c, hbk]
          have hcurk : cur S' k = some (g + 1) := by simp [cur, hget, genD]
          have hnx : S'.nx = S.nx := by rw [← hS']
          have hT : S'.T = S.T := by rw [← hS']
          obtain ⟨k1, k2⟩ := obj_sound hR.toObjOk (cx' := cx) (S' := S') (w' := w') hS hc
            (fun kk xx hx => by rw [hget] at hx; simp only [Option.some.injEq, Blk.obj.injEq] at hx; obtain ⟨_, rfl⟩ := hx; simp only [genD]; omega)
            (fun g' _ => ⟨g, hkg⟩)
            (fun g' h0 h2 => by
              unfold isIt at h0 h2
              rw [hc] at h0
              rw [hget] at h2
              simp only [Option.some.injEq, Blk.obj.injEq, true_and, D.int.injEq] at h0 h2
              omega)
            hT hnx (fun ii hne => by rw [← hS']; simp only [AL.get_set]; rw [if_neg (Ne.symm hne)])
            (.inr ⟨3, _, hget, (hR.toObjOk.it _ _ _ _).2 ⟨by rw [hsz, ← hbk]; exact hblt, fun c => by rw [hfpk c, hbk]⟩⟩)
            (by omega) (by rw [← hw']; exact r4) (by rw [← hw']; exact r6) (by rw [← hw']; exact r5)
            (fun c hc1 hc2 => by
              rw [hheap, Array.getElem?_setIfInBounds_ne (fun q => hc2 ((hfpk c).2 q.symm))])
            (fun _ => rfl) (fun _ _ _ => Iff.rfl) (fun _ => rfl) (fun _ => rfl) (fun c hc1 => .inl hc1)
            (fun c oo hc1 => (hS.objs k 3 _ hc).2 c oo hc1) (fun _ _ q _ => q) (fun _ _ q => q) (fun c oo q => by rw [hsz]; exact hS.lt c oo q)
          have hw2 : w'.heap[b]? = some (.mapIter (some m) since (seen ++ [p.2.2]).toArray M.clk) := by
            rw [hheap, Array.getElem?_setIfInBounds_self, if_pos hblt, c4', p3]
            simp
          have hlive : ∀ ii, cur S' ii ≠ none → cur S ii ≠ none := fun ii hii => by
            by_cases q : ii = k
            · subst q; rw [isIt_cur hkg]; simp
            · unfold cur at hii ⊢
              have : S'.H.get ii = S.H.get ii := by rw [← hS']; simp only [AL.get_set]; rw [if_neg (Ne.symm q)]
              rw [this, hT] at hii
              exact hii
          refine enter hg ⟨.tuple #[.bool true, x.key, x.val], w', by rw [hev]; exact r7, ?_⟩
          refine hk (.go e' S') q2 cx _ w' k1 k2 (ERel.put (e := (t, .it k (g + 1) (some id) since (seen ++ [p.2.2]) M.clk) :: e) ?_ hp ?_) (put_defers _ _ _)
          · refine ⟨he.size, fun t' x' hx' => ?_⟩
            rw [AL.get_cons] at hx'
            by_cases q : t = t'
            · subst q
              rw [if_pos rfl] at hx'
              cases hx'
              refine ⟨_, h1, .it k (g + 1) id since M.clk b m _ ⟨by rw [hnx]; exact hn.1, fun g' hg' => by rw [hcurk] at hg'; cases hg'; exact Nat.le_refl _⟩ (hni.mono k2) (fun hcur => ?_) (fun _ => ⟨hbk, hfk, fun ii hii hf => honly ii (hlive ii hii) hf, hw2⟩)⟩
              exact hm
            · rw [if_neg q] at hx'
              obtain ⟨v, v1, v2⟩ := he.rel t' x' hx'
              exact ⟨v, v1, v2.mono k2⟩
          · obtain ⟨d1, d2⟩ := c5 j p x p1 p2
            refine .tup [.d (.bool true), .d p.1, p.2.1] [.bool true, x.key, x.val] rfl (fun j' x' u' hx' hu' => ?_)
            match j', hx', hu' with
            | 0, hx', hu' => simp at hx' hu'; subst hx'; subst hu'; exact .of_bool _
            | 1, hx', hu' => simp at hx' hu'; subst hx'; subst hu'; exact .d _ _ (d1.mono k2.prot)
            | 2, hx', hu' => simp at hx' hu'; subst hx'; subst hu'; exact d2.mono k2
      · cases hs
    · cases hs
  · cases hs

/-- One operation, whatever its calls come to. -/
theorem stepL_sound {R : ObjR} {C : Cfg} (hR : ObjOkC R C) {h : HandL} (hh : HandOkL R C.P h) {cx : Cx} {S : St} {w : World} {nt : Nat} {e : Env} {a : Act} {ops : Array Oper} {o : Oper} {rs : List Stp}
    (hs : stepL C h nt ops o e S = some rs) (hS : SRel R cx S w) (he : ERel cx S w nt e a) {K : Act → World → Prop} {Q : Exit → Act → World → Prop} (hk : ∀ r ∈ rs, After R cx S w nt a K Q r) {i : Nat} (hi : ops[i]? = some o) :
    wpOp C.P ops Q i K a w := by
  have one : (stepE C noHand nt ops o e S).map ([·]) = some rs → wpOp C.P ops Q i K a w := by
    intro h1
    simp only [Option.map_eq_some_iff] at h1
    obtain ⟨r, h1, rfl⟩ := h1
    exact step_sound hR noHand_ok h1 hS he (hk r (by simp)) hi
  unfold stepL at hs
  split at hs
  · rename_i t hop
    exact next_sound hR hop hs hS he hk hi
  · rename_i c hop
    split at hs
    · rename_i hw
      split at hs
      · rename_i f args ho
        split at hs
        · rename_i os hc
          unfold wpOp
          rw [hi]
          simp only
          rw [if_pos (wanted_sound he hw)]
          left
          obtain ⟨us, h1, h2, h3⟩ := oper_sound hR hS he.eval o ho
          obtain ⟨⟨fn, f1, f2, f3⟩, hcalls⟩ := hh f args S os hc
          unfold Oper.wp
          rw [h3 fn f1 f2 f3]
          refine (hcalls cx w us hS h1 h2).mono (fun en w' hen => ?_)
          obtain ⟨⟨p, v, S'⟩, hr, cx', k1, k2, k3⟩ := hen
          obtain ⟨rr, q1, q2⟩ := mapO_mem hs _ hr
          cases p with
          | none =>
            simp only [Option.map_eq_some_iff] at q1
            obtain ⟨e', hp, rfl⟩ := q1
            obtain ⟨u, rfl, k3⟩ := k3
            exact hk (.go e' S') q2 cx' _ w' k1 k2 ((he.mono k2).put hp k3) (put_defers _ _ _)
          | some p =>
            simp only [Option.some.injEq] at q1
            subst q1
            obtain ⟨u, rfl, k3⟩ := k3
            exact hk (.stop p S') q2 cx' w' u k1 k2 k3
        · cases hs
      · exact one hs
    · exact one hs
  · exact one hs

/-- A region whose order is the text's. -/
theorem opsL_sound {R : ObjR} {C : Cfg} (hR : ObjOkC R C) {h : HandL} (hh : HandOkL R C.P h) {nt : Nat} {ops : Array Oper} {Q : Exit → Act → World → Prop} : ∀ (l : List Oper) (k : Nat) {cx : Cx} {S : St} {w : World} {e : Env} {a : Act} {rs : List Stp},
    (∀ j, l[j]? = ops[k + j]?) → evOpsL C h nt ops l e S = some rs → SRel R cx S w → ERel cx S w nt e a →
    (∀ r ∈ rs, match r with
      | .go e' S' => ∀ cx' a' w', SRel R cx' S' w' → Ext cx S w cx' S' w' → ERel cx' S' w' nt e' a' → a'.defers = a.defers → Q .normal a' w'
      | .stop v S' => ∀ cx' a' w' u, SRel R cx' S' w' → Ext cx S w cx' S' w' → ARel cx' S' w' v u → a'.defers = a.defers → Q (.panic [{ v := u, recovered := false }]) a' w') →
    wpOps C.P ops Q ((List.range l.length).map (k + ·)) a w
  | [], k, cx, S, w, e, a, rs, hl, hev, hS, he, hk => by
    simp only [evOpsL, Option.some.injEq] at hev; subst hev
    exact hk (.go e S) (by simp) cx a w hS (Ext.refl w hS.wf) he rfl
  | o :: l, k, cx, S, w, e, a, rs, hl, hev, hS, he, hk => by
    have h0 : ops[k]? = some o := by simpa using (hl 0).symm
    rw [List.length_cons, List.range_succ_eq_map, List.map_cons, wpOps_cons, Nat.add_zero]
    simp only [evOpsL] at hev
    split at hev
    · rename_i r1 hst
      refine stepL_sound hR hh hst hS he (fun r hr => ?_) h0
      obtain ⟨r2, b1, b2⟩ := bindL_mem hev r hr
      cases r with
      | go e' S' =>
        intro cx1 a1 w1 s1 x1 er1 d1
        simp only at b1
        have ih := opsL_sound hR hh (Q := Q) l (k + 1) (cx := cx1) (S := S') (w := w1) (e := e') (a := a1) (rs := r2) (fun j => by have := hl (j + 1); simpa [Nat.add_assoc, Nat.add_comm 1 j] using this) b1 s1 er1 (fun r hr => by
          have hk' := hk r (b2 r hr)
          cases r with
          | go e2 S2 => exact fun cx' a' w' q1 q2 q3 q4 => hk' cx' a' w' q1 (x1.trans q2) q3 (q4.trans d1)
          | stop v S2 => exact fun cx' a' w' u q1 q2 q3 q4 => hk' cx' a' w' u q1 (x1.trans q2) q3 (q4.trans d1))
        rw [List.map_map]
        have : ((fun x => k + x) ∘ Nat.succ) = (fun x => k + 1 + x) := by funext x; simp; omega
        rw [this]; exact ih
      | stop v S' =>
        simp only [Option.some.injEq] at b1
        subst b1
        exact fun cx1 w1 u s1 x1 r1 => hk (.stop v S') (b2 _ (by simp)) cx1 a w1 u s1 x1 r1 rfl
    · cases hev

end Go.Ev

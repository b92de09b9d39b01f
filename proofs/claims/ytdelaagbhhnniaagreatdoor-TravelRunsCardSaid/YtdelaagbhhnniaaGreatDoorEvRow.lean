import Derived.Test.YtdelaagbhhnniaaGreatDoorEvApp2
import Derived.Test.YtdelaagbhhnniaaGreatDoorEvOp5
import Derived.Laws.MakeOwn
namespace Go.Ev
set_option linter.unusedVariables false
set_option linter.unusedSimpArgs false

/-- A row goes on in another state of its own. -/
theorem blk_sound {R : ObjR} (hR : ObjOk R) {cx cx' : Cx} {S : St} {w w' : World} (h : SRel R cx S w) {id g g' : Nat} {cs cs' : List AV} (hg : S.H.get id = some (.cells g cs)) (hlt : g < g')
    (hs : w.heap.size ≤ w'.heap.size) (h1 : w'.os = w.os) (h2 : w'.tape = w.tape) (h3 : w'.output = w.output)
    (hoth : ∀ b, b < w.heap.size → b ≠ cx.bm id → w'.heap[b]? = w.heap[b]?)
    (hbm : ∀ i, i ≠ id → cx'.bm i = cx.bm i) (hfp : ∀ i, i ≠ id → ∀ b, (cx'.fp i b ↔ cx.fp i b)) (htsz : ∀ i, i ≠ id → cx'.tsz i = cx.tsz i) (htot : ∀ i, i ≠ id → cx'.tot i = cx.tot i)
    (hfpt : ∀ b, cx'.fp id b → b = cx.bm id ∨ (w.heap.size ≤ b ∧ b < w'.heap.size))
    (hfr1 : ∀ b o, ¬ cx.fr b o → b < w.heap.size → ¬ cx'.fr b o) (hfr2 : ∀ b o, cx.fr b o → cx'.fr b o) (hfr3 : ∀ b o, cx'.fr b o → b < w'.heap.size)
    (hnew : Ext cx S w cx' { S with H := S.H.set id (.cells g' cs') } w' → CellsR cx' { S with H := S.H.set id (.cells g' cs') } w' id cs') :
    SRel R cx' { S with H := S.H.set id (.cells g' cs') } w' ∧ Ext cx S w cx' { S with H := S.H.set id (.cells g' cs') } w' := by
  obtain ⟨t1, t2, tarr, tel, t3, t4, t5⟩ := h.cells id g cs hg
  have hlive : live S id := by simp [live, cur, hg]
  have hcur : ∀ i, i ≠ id → cur { S with H := S.H.set id (.cells g' cs') } i = cur S i := fun i hi => by
    unfold cur; simp only [AL.get_set, if_neg (Ne.symm hi)]
  have hcurt : cur { S with H := S.H.set id (.cells g' cs') } id = some g' := by unfold cur; simp [AL.get_set]
  have hl' : ∀ i, live { S with H := S.H.set id (.cells g' cs') } i → live S i := fun i hl => by
    by_cases hi : i = id
    · subst hi; exact hlive
    · unfold live at *; rwa [hcur i hi] at hl
  have e : Ext cx S w cx' { S with H := S.H.set id (.cells g' cs') } w' := by
    refine ⟨hs, h1, h2, h3, Nat.le_refl _, fun b o v hf hcl => ⟨?_, hfr1 b o hf (cell_lt hcl)⟩, fun b hb hn => ?_, fun i b hl hf => ?_, fun i gi _ hi => ⟨gi, by
      unfold isIt at *
      simp only [AL.get_set] at hi
      split at hi
      · cases hi
      · exact hi⟩, fun i gi b _ h0 _ hf => (hfp i (fun q => by subst q; unfold isIt at h0; rw [hg] at h0; cases h0) b).2 hf, fun i gg hi hgg => ?_⟩
    · have hne : b ≠ cx.bm id := fun q => hf (by rw [q]; exact t2 o)
      exact cell_old (hoth b (cell_lt hcl) hne) hcl
    · have hne : b ≠ cx.bm id := fun q => notIt hg (by simp) (hn id hlive ((t1 b).2 q))
      exact ⟨hoth b hb hne, fun o => ⟨fun q => Classical.byContradiction fun q' => hfr1 b o q' hb q, hfr2 b o⟩⟩
    · refine ⟨fun _ => ⟨hl' i hl, ?_⟩, fun hge => absurd (h.wf i (hl' i hl)) (by show ¬ i < S.nx; omega)⟩
      by_cases hi : i = id
      · subst hi
        rcases hfpt b hf with q | q
        · exact .inl ((t1 b).2 q)
        · exact .inr q.1
      · exact .inl ((hfp i hi b).1 hf)
    · by_cases hi' : i = id
      · subst hi'
        rw [hcurt] at hgg
        simp only [Option.some.injEq] at hgg
        exact ⟨g, by simp [cur, hg], by omega, fun q => by omega⟩
      · rw [hcur i hi'] at hgg
        exact ⟨gg, hgg, Nat.le_refl _, fun _ => ⟨hbm i hi', htsz i hi', htot i hi'⟩⟩
  have hne : ∀ i, live S i → i ≠ id → ∀ b, cx.fp i b → b ≠ cx.bm id := fun i hi hne b hf hq => hne (h.sep i id b hi hlive hf ((t1 b).2 hq))
  refine ⟨⟨fun i hi => h.wf i (hl' i hi), fun i b hi => ?_, fun i gg cs2 hi => ?_, fun i es hi => ?_, fun i k x hi => ?_, fun i n hi => ?_, fun i i' b a1 a2 f1 f2 => ?_, hfr3, hR.stat _ _ _ _ h.stat e.prot⟩, e⟩
  · simp only [AL.get_set] at hi
    by_cases q : id = i
    · subst q; exact h.dis id _ hg
    · rw [if_neg q] at hi; exact h.dis i b hi
  · simp only [AL.get_set] at hi
    by_cases q : id = i
    · subst q
      simp only [if_true, Option.some.injEq, Blk.cells.injEq] at hi
      obtain ⟨_, rfl⟩ := hi
      exact hnew e
    · rw [if_neg q] at hi
      have q' := Ne.symm q
      obtain ⟨d1, d2, arr2, el2, d3, d4, d5⟩ := h.cells i gg cs2 hi
      have hb := hne i (by simp [live, cur, hi]) q' _ ((d1 _).2 rfl)
      refine ⟨fun b => by rw [hfp i q', hbm i q']; exact d1 b, fun o => by rw [hbm i q']; exact hfr2 _ _ (d2 o), arr2, el2, ?_, by rw [htsz i q', htot i q']; exact d4, fun j x hx => by
        obtain ⟨v, v1, v2, v3⟩ := d5 j x hx
        exact ⟨v, v1, v2.mono e, v3⟩⟩
      rw [hbm i q', hoth _ (h.lt _ 0 (d2 0)) hb]; exact d3
  · simp only [AL.get_set] at hi
    by_cases q : id = i
    · subst q; simp at hi
    · rw [if_neg q] at hi
      have q' := Ne.symm q
      obtain ⟨d1, d2, ms, clk, d3, d4, d5⟩ := h.maps i es hi
      have hb := hne i (by simp [live, cur, hi]) q' _ ((d1 _).2 rfl)
      refine ⟨fun b => by rw [hfp i q', hbm i q']; exact d1 b, fun o => by rw [hbm i q']; exact hfr2 _ _ (d2 o), ms, clk, ?_, d4, fun j p m hp hm => by
        obtain ⟨v1, v2⟩ := d5 j p m hp hm
        exact ⟨v1.mono e.prot, v2.mono e⟩⟩
      rw [hbm i q', hoth _ (h.lt _ 0 (d2 0)) hb]; exact d3
  · simp only [AL.get_set] at hi
    by_cases q : id = i
    · subst q; simp at hi
    · rw [if_neg q] at hi
      have q' := Ne.symm q
      obtain ⟨d1, d2⟩ := h.objs i k x hi
      have hf : cx'.fp i = cx.fp i := funext fun b => propext (hfp i q' b)
      rw [hbm i q', hf]
      have hb := hne i (by simp [live, cur, hi]) q'
      exact ⟨hR.frame k x w w' _ _ d1 (fun c hc => hoth c ((hR.lt k x w _ _ d1).1 c hc) (hb c hc)), fun b o hbf => hfr2 b o (d2 b o hbf)⟩
  · have hi' : S.T.get i = some n := hi
    have q : i ≠ id := fun q => by subst q; have := h.dis i _ hg; rw [this] at hi'; cases hi'
    obtain ⟨hci, hHi⟩ := cur_T h hi'
    obtain ⟨d1, d2, arr2, el2, fz, d3, d4, d5, d6⟩ := h.toks i n hi'
    have hb := hne i (by simp [live, hci]) q _ ((d1 _).2 rfl)
    have hlt : cx.bm i < w.heap.size := h.lt _ _ (d2 _ (Nat.le_refl _))
    refine ⟨fun b => by rw [hfp i q, hbm i q]; exact d1 b, fun o ho => ?_, arr2, el2, fz, ?_, ?_, ?_, ?_⟩
    · rw [htsz i q] at ho; rw [hbm i q]; exact hfr2 _ _ (d2 o ho)
    · rw [hbm i q, hoth _ hlt hb]; exact d3
    · rw [htsz i q, htot i q]; exact d4
    · rw [htot i q]; exact d5
    · rw [htsz i q]; exact d6
  · by_cases q : i = id <;> by_cases q' : i' = id
    · omega
    · exfalso
      subst q
      have f2' := (hfp i' q' b).1 f2
      have hb := hne i' (hl' i' a2) q' b f2'
      rcases hfpt b f1 with z | z
      · exact hb z
      · have := h.fp_lt hR (hl' i' a2) f2'; omega
    · exfalso
      subst q'
      have f1' := (hfp i q b).1 f1
      have hb := hne i (hl' i a1) q b f1'
      rcases hfpt b f2 with z | z
      · exact hb z
      · have := h.fp_lt hR (hl' i a1) f1'; omega
    · exact h.sep i i' b (hl' i a1) (hl' i' a2) ((hfp i q b).1 f1) ((hfp i' q' b).1 f2)

theorem Flat.cons {w : World} {fr : Nat → Nat → Prop} {sz : Nat} {x : D} {xs : List D} {fl : List Value} (h : Flat w fr sz (x :: xs) fl) : CRel w fr x (fl.take sz) ∧ Flat w fr sz xs (fl.drop sz) := by
  have h0 := h.rel 0 x rfl
  simp only [Nat.zero_mul, List.drop_zero] at h0
  have hl := h.len
  simp only [List.length_cons, Nat.succ_mul] at hl
  refine ⟨h0, by simp; omega, fun v hv => h.one v (List.mem_of_mem_drop hv), fun y hy => h.szs y (by simp [hy]), fun i y hy => ?_⟩
  have := h.rel (i + 1) y (by simpa using hy)
  rw [Nat.succ_mul, Nat.add_comm] at this
  rwa [List.drop_drop]

theorem Flat.pw {w : World} {fr : Nat → Nat → Prop} {sz : Nat} : ∀ {xs : List D} {fl : List Value}, Flat w fr sz xs fl → Pw (DRel w fr) (xs.map D.cells).flatten fl
  | [], fl, h => by
    have : fl = [] := by have := h.len; simpa using this
    subst this; exact Pw.nil
  | x :: xs, fl, h => by
    obtain ⟨h1, h2⟩ := h.cons
    have hc := h1.cells
    have := Pw.append (Rl := DRel w fr) (cs := x.cells) (vs := fl.take sz) ⟨hc.1, hc.2.1, hc.2.2⟩ h2.pw
    rw [List.take_append_drop] at this
    simpa using this

theorem Pw.toAV {cx : Cx} {S : St} {w : World} {ds : List D} {vs : List Value} (h : Pw (DRel w cx.fr) ds vs) : Pw (ARel cx S w) (ds.map .d) vs := by
  obtain ⟨h1, h2, h3⟩ := h
  refine ⟨by simp [h1], h2, fun i x v hx hv => ?_⟩
  simp only [List.getElem?_map, Option.map_eq_some_iff] at hx
  obtain ⟨y, hy, rfl⟩ := hx
  exact .d y v (h3 i y v hy hv)

theorem Pw.mono {cx cx' : Cx} {S S' : St} {w w' : World} {ds : List AV} {vs : List Value} (h : Pw (ARel cx S w) ds vs) (e : Ext cx S w cx' S' w') : Pw (ARel cx' S' w') ds vs :=
  ⟨h.1, h.2.1, fun i x v hx hv => (h.2.2 i x v hx hv).mono e⟩

/-- Cells of a block, read. -/
theorem load_block {P : Program} {w : World} {b o n : Nat} {arr : Array Value} {el : Nat} {fz : Nat × Nat} (hb : w.heap[b]? = some (.cells arr el fz)) (hle : o + n ≤ arr.size) :
    (loadCells ⟨b, o, none⟩ n).run P w = .ok ((arr.toList.drop o).take n).toArray w := by
  have hl : ((arr.toList.drop o).take n).length = n := by simp; omega
  have := run_loadCells_list (P := P) w ⟨b, o, none⟩ ((arr.toList.drop o).take n) (fun j v hj => by
    rw [add_at, cell_of hb]
    have hlt := (List.getElem?_eq_some_iff.1 hj).1
    rw [hl] at hlt
    rw [List.getElem?_take, if_pos hlt, List.getElem?_drop] at hj
    simpa using hj)
  rwa [hl] at this

theorem cells_pw {cx : Cx} {S : St} {w : World} {cs : List AV} {arr : Array Value} (hle : cs.length ≤ arr.size) (h : ∀ (i : Nat) (x : AV), cs[i]? = some x → ∃ v, arr[i]? = some v ∧ ARel cx S w x v ∧ v.oneCell' = true) (o n : Nat) (hn : o + n ≤ cs.length) :
    Pw (ARel cx S w) ((cs.drop o).take n) ((arr.toList.drop o).take n) := by
  have hex : ∀ (i : Nat) (v : Value), ((arr.toList.drop o).take n)[i]? = some v → i < n ∧ arr[o + i]? = some v := fun i v hv => by
    have hlt := (List.getElem?_eq_some_iff.1 hv).1
    have hi : i < n := by simp at hlt; omega
    rw [List.getElem?_take, if_pos hi, List.getElem?_drop] at hv
    exact ⟨hi, by simpa using hv⟩
  refine ⟨by simp; omega, fun v hv => ?_, fun i x v hx hv => ?_⟩
  · obtain ⟨i, hi⟩ := List.mem_iff_getElem?.1 hv
    obtain ⟨h1, h2⟩ := hex i v hi
    obtain ⟨u, u1, u2, u3⟩ := h (o + i) cs[o + i] (List.getElem?_eq_getElem (by omega))
    rw [u1] at h2; cases h2; exact u3
  · obtain ⟨h1, h2⟩ := hex i v hv
    rw [List.getElem?_take, if_pos h1, List.getElem?_drop] at hx
    obtain ⟨u, u1, u2, u3⟩ := h (o + i) x hx
    rw [u1] at h2; cases h2; exact u2

theorem look_some {S : St} {id g : Nat} {cs : List AV} (h : S.look id g = some cs) : S.H.get id = some (.cells g cs) := by
  unfold St.look at h
  split at h
  · rename_i g' cs' hg
    cases hb : Nat.beq g' g
    · simp [hb] at h
    · have := Nat.eq_of_beq_eq_true hb
      subst this
      simp only [hb, cond_true, Option.some.injEq] at h
      subst h; exact hg
  · cases h

/-- A slice of data, read in any world of the same memory. -/
theorem first_heap {P : Program} {w : World} {fr : Nat → Nat → Prop} {xs : List D} {tight : Bool} {v : Value} {sz : Nat} (h : DRel w fr (.sl xs tight) v) (hs : sizes sz xs = true) :
    ∃ fl, (∀ w', w'.heap = w.heap → (Builtin.firstCells sz xs.length v).run P w' = .ok fl.toArray w') ∧ Flat w fr sz xs fl := by
  obtain ⟨fl, f1, f2, f3⟩ := first_sound (P := P) h hs
  refine ⟨fl, fun w' hw => ?_, f2⟩
  obtain ⟨a, cap, rfl, _, _, hm⟩ := slI h
  cases a with
  | none =>
    have : xs = [] := Classical.byContradiction fun q => by
      obtain ⟨b, off, s, vs, e, _⟩ := hm q; cases e
    subst this
    have : fl = [] := by have := f2.len; simpa using this
    subst this
    simp [Builtin.firstCells]
  | some ad =>
    by_cases q : xs = []
    · subst q
      have : fl = [] := by have := f2.len; simpa using this
      subst this
      simp [Builtin.firstCells, loadCells, loadCellsFrom]
    · obtain ⟨b, off, s, vs, e, _⟩ := hm q
      simp only [Option.some.injEq] at e; subst e
      have := run_loadCells_list (P := P) w' ⟨b, off, none⟩ fl (fun j u hj => by
        rw [add_at]
        have := f3 b off _ _ rfl j u hj
        simp only [World.cell?] at this ⊢
        rw [hw]; exact this)
      rw [f2.len] at this
      exact this

/-- What is put behind, read. -/
theorem srcCells_sound {R : ObjR} {P : Program} {cx : Cx} {S : St} {w : World} (hS : SRel R cx S w) {sz n : Nat} {y : AV} {ys : List AV} {u : Value} (h : srcCells S sz y = some (ys, n)) (hy : ARel cx S w y u) :
    (Builtin.lenOf u).run P w = .ok n w ∧ ys.length = n * sz ∧ ∃ fl, (∀ w', w'.heap = w.heap → (Builtin.firstCells sz n u).run P w' = .ok fl.toArray w') ∧ Pw (ARel cx S w) ys fl := by
  unfold srcCells at h
  split at h
  · rename_i id g off len lim sz'
    split at h
    · rename_i cs hlk
      split at h
      · rename_i hc
        obtain ⟨rfl, hpos, hle⟩ := hc
        simp only [Option.some.injEq, Prod.mk.injEq] at h
        obtain ⟨rfl, rfl⟩ := h
        have hk := look_some hlk
        cases hy with
        | msl _ _ _ _ _ _ b cap hn hl hcap h63 hp =>
          obtain ⟨p1, p2, p3⟩ := hp (by simp [cur, hk])
          subst p1
          obtain ⟨c1, c2, arr, el, c3, c4, c5⟩ := hS.cells id g cs hk
          refine ⟨rfl, by simp; omega, (arr.toList.drop off).take (len * sz'), fun w' hw => ?_, cells_pw c4.2.2 c5 off (len * sz') hle⟩
          exact load_block (P := P) (w := w') (by rw [hw]; exact c3) (by have := c4.2.2; omega)
      · cases h
    · cases h
  · rename_i s
    split at h
    · rename_i hsz
      subst hsz
      simp only [Option.some.injEq, Prod.mk.injEq] at h
      obtain ⟨rfl, rfl⟩ := h
      obtain ⟨b, rfl, rfl⟩ := hy.str
      have hbl : b.data.toList.length = b.size := Array.length_toList
      obtain ⟨fl, f1, f2⟩ := first_str (P := P) (w := w) (fr := cx.fr) b
      refine ⟨by simp only [Builtin.lenOf, Sem.run_pure]; rw [hbl], by simp, fl, fun w' _ => ?_, ?_⟩
      · simp only [Builtin.firstCells, Sem.run_pure, Result.ok.injEq, and_true] at f1 ⊢
        rw [hbl]; exact f1
      · have := f2.pw.toAV (cx := cx) (S := S)
        have e : (List.map D.cells (List.map (fun c : UInt8 => D.int .u8 c.toNat) b.data.toList)).flatten.map AV.d = b.data.toList.map fun c => .d (.int .u8 c.toNat) := by
          generalize b.data.toList = l
          induction l with
          | nil => rfl
          | cons c l ih => simp only [List.map_cons, List.flatten_cons, List.map_append, ih, D.cells, List.map_nil, List.singleton_append]
        rw [e] at this
        exact this
    · cases h
  · rename_i hn1 hn2
    split at h
    · rename_i xs hd
      split at h
      · rename_i hs
        simp only [Option.some.injEq, Prod.mk.injEq] at h
        obtain ⟨rfl, rfl⟩ := h
        obtain ⟨tight, hr⟩ := dataSl hd hy
        obtain ⟨fl, f1, f2⟩ := first_heap (P := P) hr hs
        have hpw := f2.pw.toAV (cx := cx) (S := S)
        refine ⟨?_, by rw [← hpw.1, f2.len], fl, f1, hpw⟩
        obtain ⟨a, cap, rfl, _⟩ := slI hr
        rfl
      · cases h
    · cases h

/-- A new row: some cells known, the others free. -/
theorem newrow_sound {R : ObjR} (hR : ObjOk R) {cx : Cx} {S : St} {w : World} (h : SRel R cx S w) (cs : List AV) (vs : List Value) (rest : Array Value) (el len sz cap : Nat) (hp : Pw (ARel cx S w) cs vs)
    (hc : cs.length = len * sz) (hcap : len ≤ cap) (h63 : cap ≤ 9223372036854775807) (hr : rest.size = (cap - len) * sz) :
    ∃ cx', SRel R cx' (opNew S cs).2 (w.alloc (.cells (vs.toArray ++ rest) el)) ∧ Ext cx S w cx' (opNew S cs).2 (w.alloc (.cells (vs.toArray ++ rest) el)) ∧
      ARel cx' (opNew S cs).2 (w.alloc (.cells (vs.toArray ++ rest) el)) (.msl S.nx 0 0 len len sz) (.slice (some ⟨w.heap.size, 0, none⟩) len cap) := by
  obtain ⟨nH, nT⟩ := not_live_nx h
  obtain ⟨hl, ho, hv⟩ := hp
  have hsz : (vs.toArray ++ rest).size = cap * sz := by
    simp only [Array.size_append, List.size_toArray, hr, hl, hc]
    rw [← Nat.add_mul]; congr 1; omega
  have hle : len * sz ≤ cap * sz := Nat.mul_le_mul_right _ hcap
  have hH : ∀ id, id ≠ S.nx → (opNew S cs).2.H.get id = S.H.get id := fun id hid => by simp [opNew, newBlk, AL.get_set, Ne.symm hid]
  have hT : ∀ id, id ≠ S.nx → (opNew S cs).2.T.get id = S.T.get id := fun id hid => rfl
  have hc' : ∀ id, id ≠ S.nx → cur (opNew S cs).2 id = cur S id := fun id hid => by unfold cur; rw [hH id hid, hT id hid]
  have hnew : (opNew S cs).2.H.get S.nx = some (.cells 0 cs) := by simp [opNew, newBlk, AL.get_set]
  have e := Ext.fresh (S' := (opNew S cs).2) h (.cells (vs.toArray ++ rest) el) (len * sz) (cap * sz) (fun _ => True) rfl hc' hH
  refine ⟨cx.new S.nx w.heap.size (len * sz) (cap * sz) (fun _ => True), SRel.fresh hR h _ (len * sz) (cap * sz) _ rfl hH hT (fun b _ => nT) (fun g cs' hg => ?_) (fun es hg => ?_) (fun k x hg => ?_) (fun en hg => ?_), e, ?_⟩
  · rw [hnew] at hg
    obtain ⟨rfl, rfl⟩ : 0 = g ∧ cs = cs' := by simpa using hg
    refine ⟨fun c => by simp [Cx.new], fun o => by simp [Cx.new], vs.toArray ++ rest, el, by simp only [Cx.new, if_true]; exact heap_alloc_new w _, ?_, fun i x hx => ?_⟩
    · simp only [Cx.new, if_true]
      exact ⟨hsz, hc, by rw [hsz, hc]; exact hle⟩
    · have hi : i < vs.length := by rw [hl]; exact (List.getElem?_eq_some_iff.1 hx).1
      refine ⟨vs[i], ?_, (hv i x vs[i] hx (List.getElem?_eq_getElem hi)).mono e, ho _ (List.getElem_mem hi)⟩
      rw [Array.getElem?_append_left (by simpa using hi)]
      simp [hi]
  · rw [hnew] at hg; cases hg
  · rw [hnew] at hg; cases hg
  · have : (opNew S cs).2.T.get S.nx = none := nT
    rw [this] at hg; cases hg
  · exact .msl S.nx 0 0 len len sz w.heap.size cap ⟨by simp [opNew, newBlk], fun g' _ => Nat.zero_le _⟩ (Nat.le_refl _) hcap h63 (fun _ => by simp only [Cx.new, if_true, Nat.zero_add]; exact ⟨trivial, hle, Nat.le_refl _⟩)

theorem growOk_some {C : Cfg} {e n : Nat} (h : growOk C e n = true) : ∃ i z, C.P.info? e = some i ∧ i.zero = some z ∧ z.cells.size = i.size ∧ n * i.bytes ≤ bound ∧ 0 < i.bytes ∧ i.bytes ≤ 65536 := by
  unfold growOk at h
  simp only [Bool.and_eq_true] at h
  obtain ⟨⟨⟨h1, h2⟩, h3⟩, h4⟩ := h
  obtain ⟨i, z, hi, hz, hs⟩ := zeroOk_some h4
  have hb : bytesOf C.P e = i.bytes := by simp [bytesOf, hi]
  rw [hb] at h1 h2 h3
  exact ⟨i, z, hi, hz, hs, Nat.le_of_ble_eq_true h1, Nat.le_of_ble_eq_true h2, Nat.le_of_ble_eq_true h3⟩

theorem appendFirst_sound {R : ObjR} (hR : ObjOk R) {C : Cfg} {cx : Cx} {S S' : St} {w : World} (hS : SRel R cx S w) {t t2 e ty : Nat} {xs : List D} {x y r : AV} {a : Option Addr} {cap : Nat} {u : Value} (h : appendFirst C e S x xs y = some (r, S')) (he : elemSl C.P t = some e) (h2 : okSrc C t2 = true)
    (hold : ∀ sz, sizes sz xs = true → ∃ fl, (∀ w', w'.heap = w.heap → (Builtin.firstCells sz xs.length (.slice a xs.length cap)).run C.P w' = .ok fl.toArray w') ∧ Flat w cx.fr sz xs fl) (hcap : cap = xs.length) (hx : ARel cx S w x (.slice a xs.length cap)) (hy : ARel cx S w y u) :
    ∃ cx' w' z, (Builtin.append_ #[t, t2] ty #[.slice a xs.length cap, u]).run C.P w = .ok z w' ∧ SRel R cx' S' w' ∧ Ext cx S w cx' S' w' ∧ ARel cx' S' w' r z := by
  unfold appendFirst at h
  split at h
  · rename_i ys n hsrc
    split at h
    · rename_i hn0
      subst hn0
      split at h
      · rename_i hinf
        simp only [Option.some.injEq, Prod.mk.injEq] at h
        obtain ⟨rfl, rfl⟩ := h
        obtain ⟨ie, hi⟩ := Option.isSome_iff_exists.1 hinf
        have hse : szOf C.P e = ie.size := by simp [szOf, hi]
        obtain ⟨s1, s2, fs, s3, s4⟩ := srcCells_sound (P := C.P) hS hsrc hy
        have hfs : fs = [] := List.eq_nil_of_length_eq_zero (by rw [s4.1, s2, Nat.zero_mul])
        subst hfs
        refine ⟨cx, w, _, ?_, hS, Ext.refl w hS.wf, hx⟩
        rw [run_append_fits (w := w) (ty := ty) (sLen := xs.length) (sCap := cap) (n := 0) (base := a) (u := u) (elemSl_some he) hi h2 s1 (by omega) (by rw [← hse]; exact s3 w rfl)]
        cases a with
        | none => rfl
        | some a => simp [storeCells]
      · cases h
    split at h
    · rename_i hc
      obtain ⟨hn, hpos, hsx, hg⟩ := hc
      simp only [Option.some.injEq, Prod.mk.injEq] at h
      obtain ⟨rfl, rfl⟩ := h
      obtain ⟨s1, s2, fs, s3, s4⟩ := srcCells_sound (P := C.P) hS hsrc hy
      obtain ⟨ie, z, hi, hz0, hzs, hb2, hb0, hb1⟩ := growOk_some hg
      have hse : szOf C.P e = ie.size := by simp [szOf, hi]
      obtain ⟨fl, f1, f2⟩ := hold _ hsx
      obtain ⟨nc, n1, n63, n2⟩ := run_append_grows (w := w) (ty := ty) (sLen := xs.length) (sCap := cap) (n := n) (base := a) (u := u) (elemSl_some he) hi h2 s1 (by omega) hb0 hb1 hb2 hz0 (by rw [← hse]; exact f1 _ rfl) (by rw [← hse]; exact s3 _ rfl)
      obtain ⟨hd1, hd2⟩ := drew_sound hR hS
      have hpw : Pw (ARel cx S w.drew) ((xs.map D.cells).flatten.map .d ++ ys) (fl ++ fs) := Pw.append ((f2.pw.toAV (cx := cx) (S := S)).mono hd2) (s4.mono hd2)
      have hlen : ((xs.map D.cells).flatten.map AV.d ++ ys).length = (xs.length + n) * szOf C.P e := by
        rw [List.length_append, s2, ← (f2.pw.toAV (cx := cx) (S := S)).1, f2.len, Nat.add_mul]
      obtain ⟨cx', k1, k2, k3⟩ := newrow_sound hR hd1 _ _ (Builtin.zeroCells z.cells (nc - (xs.length + n))) e (xs.length + n) (szOf C.P e) nc hpw hlen n1 n63 (by rw [zeroCells_size, hzs, hse])
      have harr : fl.toArray ++ fs.toArray ++ Builtin.zeroCells z.cells (nc - (xs.length + n)) = (fl ++ fs).toArray ++ Builtin.zeroCells z.cells (nc - (xs.length + n)) := by simp
      rw [harr] at n2
      exact ⟨cx', _, _, n2, k1, hd2.trans k2, k3⟩
    · cases h
  · cases h

theorem appendRow_sound {R : ObjR} (hR : ObjOk R) {C : Cfg} {cx : Cx} {S S' : St} {w : World} (hS : SRel R cx S w) {t t2 e ty id g off len lim sz : Nat} {y r : AV} {v u : Value} (h : appendRow C e S id g off len lim sz y = some (r, S')) (he : elemSl C.P t = some e) (h2 : okSrc C t2 = true)
    (hx : ARel cx S w (.msl id g off len lim sz) v) (hy : ARel cx S w y u) :
    ∃ cx' w' z, (Builtin.append_ #[t, t2] ty #[v, u]).run C.P w = .ok z w' ∧ SRel R cx' S' w' ∧ Ext cx S w cx' S' w' ∧ ARel cx' S' w' r z := by
  unfold appendRow at h
  split at h
  · rename_i ys n cs hsrc hlk
    split at h
    · rename_i hc
      obtain ⟨rfl, hpos, hle⟩ := hc
      obtain ⟨s1, s2, fs, s3, s4⟩ := srcCells_sound (P := C.P) hS hsrc hy
      have hfsl : fs.length = n * szOf C.P e := by rw [s4.1, s2]
      have hk := look_some hlk
      obtain ⟨ie, hi⟩ : ∃ i, C.P.info? e = some i := by
        unfold szOf at hpos
        split at hpos
        · exact ⟨_, by assumption⟩
        · omega
      have hse : szOf C.P e = ie.size := by simp [szOf, hi]
      have hlive : cur S id = some g := by simp [cur, hk]
      cases hx with
      | msl _ _ _ _ _ _ b cap hn hl hcap h63 hp =>
      obtain ⟨p1, p2, p3⟩ := hp hlive
      subst p1
      obtain ⟨c1, c2, arr, el, c3, c4, c5⟩ := hS.cells id g cs hk
      have fits := fun (hfit : len + n ≤ cap) => run_append_fits (w := w) (ty := ty) (sLen := len) (sCap := cap) (n := n) (base := some ⟨cx.bm id, off, none⟩) (u := u) (elemSl_some he) hi h2 s1 hfit (by rw [← hse]; exact s3 w rfl)
      have stor := fun (hfit : off + len * szOf C.P e + fs.length ≤ arr.size) => storeCells_at (P := C.P) fs w (cx.bm id) (off + len * szOf C.P e) 0 arr el (0, 0) c3 s4.2.1 (by omega) (.inl rfl)
      split at h
      · rename_i hn0
        subst hn0
        simp only [Option.some.injEq, Prod.mk.injEq] at h
        obtain ⟨rfl, rfl⟩ := h
        have hfs : fs = [] := List.eq_nil_of_length_eq_zero (by rw [hfsl]; omega)
        subst hfs
        refine ⟨cx, w, _, ?_, hS, Ext.refl w hS.wf, .msl id g off len lim _ _ cap hn hl hcap h63 hp⟩
        rw [fits (by omega)]
        simp [storeCells]
      · rename_i hn0
        split at h
        · rename_i hfitc
          simp only [Option.some.injEq, Prod.mk.injEq] at h
          obtain ⟨rfl, rfl⟩ := h
          have hfit : len + n ≤ cap := by
            have h1 : (len + n) * szOf C.P e ≤ cap * szOf C.P e := by rw [Nat.add_mul]; have := c4.2.1; omega
            exact Nat.le_of_mul_le_mul_right h1 hpos
          obtain ⟨w', r1, r2, r3, r4, r5, r6, r7, r8⟩ := stor (by have := c4.2.2; omega)
          have hw := write_sound hR (w' := w') (cs' := setAt cs (off + len * szOf C.P e) ys) (arr' := (setAt arr.toList (off + len * szOf C.P e + 0) fs).toArray) (el := el) hS hk r2 r3 r4 r5 r6 r8 (by simp [setAt_length]) (by simp [setAt_length]; exact c4.1) (fun i x hx => by
            rw [setAt_get _ _ _ _ (by omega)] at hx
            simp only [List.getElem?_toArray, Nat.add_zero]
            rw [setAt_get _ _ _ _ (by have := c4.2.2; simp; omega)]
            by_cases hi : off + len * szOf C.P e ≤ i ∧ i < off + len * szOf C.P e + ys.length
            · rw [if_pos hi] at hx
              rw [if_pos (by rw [s4.1]; exact hi)]
              have hlt : i - (off + len * szOf C.P e) < fs.length := by rw [s4.1]; omega
              have hu := List.getElem?_eq_getElem hlt
              exact ⟨_, hu, s4.2.2 _ x _ hx hu, s4.2.1 _ (List.getElem_mem hlt)⟩
            · rw [if_neg hi] at hx
              rw [if_neg (by rw [s4.1]; exact hi)]
              obtain ⟨z, z1, z2, z3⟩ := c5 i x hx
              exact ⟨z, by simpa using z1, z2, z3⟩)
          refine ⟨cx, w', .slice (some ⟨cx.bm id, off, none⟩) (len + n) cap, ?_, hw.1, hw.2, ?_⟩
          · rw [fits hfit]
            rw [hse] at r1
            simp only [add_at]
            rw [r1]; rfl
          · have hm := (ARel.msl (cx := cx) (S := S) (w := w) id g off len lim _ (cx.bm id) cap hn hl hcap h63 hp).mono hw.2
            cases hm with
            | msl _ _ _ _ _ _ _ _ m1 m2 m3 m63 m4 => exact .msl id g off (len + n) _ _ _ cap m1 (by omega) (by omega) m63 m4
        · rename_i hnfit
          split at h
          · rename_i hg
            obtain ⟨rfl, hg⟩ := hg
            simp only [Option.some.injEq, Prod.mk.injEq] at h
            obtain ⟨rfl, rfl⟩ := h
            simp only [Nat.zero_add] at *
            have hcurn : cur { S with H := S.H.set id (.cells (g + 1) (cs.take (len * szOf C.P e) ++ ys)) } id = some (g + 1) := by unfold cur; simp [AL.get_set]
            have hnm : Names { S with H := S.H.set id (.cells (g + 1) (cs.take (len * szOf C.P e) ++ ys)) } id (g + 1) := ⟨hn.1, fun g' hg => by rw [hcurn] at hg; simp at hg; omega⟩
            have hnl : (cs.take (len * szOf C.P e) ++ ys).length = (len + n) * szOf C.P e := by simp [s2, Nat.add_mul]; omega
            by_cases hfit : len + n ≤ cap
            · have hsize : (len + n) * szOf C.P e ≤ cap * szOf C.P e := Nat.mul_le_mul_right _ hfit
              have hsize' := hsize
              rw [Nat.add_mul] at hsize'
              obtain ⟨w', r1, r2, r3, r4, r5, r6, r7, r8⟩ := stor (by have := c4.1; omega)
              let cx' : Cx := { cx with tsz := fun i => if i = id then (len + n) * szOf C.P e else cx.tsz i }
              obtain ⟨k1, k2⟩ := blk_sound hR (cx' := cx') (w' := w') (g' := g + 1) (cs' := cs.take (len * szOf C.P e) ++ ys) hS hk (by omega) (by omega) r4 r5 r6 (fun b _ hb => r3 b hb) (fun _ _ => rfl) (fun _ _ _ => Iff.rfl) (fun i hi => by simp [cx', hi]) (fun _ _ => rfl)
                (fun b hb => .inl ((c1 b).1 hb)) (fun b o hf _ => hf) (fun b o hf => hf) (fun b o hf => by rw [r2]; exact hS.lt b o hf) (fun ext => by
                refine ⟨c1, c2, _, el, r8, ⟨by simp [setAt_length]; exact c4.1, by simp only [cx', if_true]; exact hnl, by simp only [List.size_toArray, setAt_length, Array.length_toList, hnl]; have := c4.1; omega⟩, fun i x hx => ?_⟩
                simp only [List.getElem?_toArray, Nat.add_zero]
                rw [setAt_get _ _ _ _ (by have := c4.1; simp; omega)]
                rw [List.getElem?_append] at hx
                have htl : (cs.take (len * szOf C.P e)).length = len * szOf C.P e := by simp; omega
                by_cases hi : i < (cs.take (len * szOf C.P e)).length
                · rw [if_pos hi, List.getElem?_take, if_pos (by omega)] at hx
                  rw [if_neg (by omega)]
                  obtain ⟨z, z1, z2, z3⟩ := c5 i x hx
                  exact ⟨z, by simpa using z1, z2.mono ext, z3⟩
                · rw [if_neg hi, htl] at hx
                  have hlt : i - len * szOf C.P e < fs.length := by rw [s4.1]; exact (List.getElem?_eq_some_iff.1 hx).1
                  rw [if_pos (by omega)]
                  have hu := List.getElem?_eq_getElem hlt
                  exact ⟨_, hu, (s4.2.2 _ x _ hx hu).mono ext, s4.2.1 _ (List.getElem_mem hlt)⟩)
              refine ⟨cx', w', .slice (some ⟨cx.bm id, 0, none⟩) (len + n) cap, ?_, k1, k2, .msl id (g + 1) 0 (len + n) (len + n) _ _ cap hnm (Nat.le_refl _) hfit h63 (fun _ => ⟨rfl, by simp only [cx', if_true, Nat.zero_add]; exact hsize, by simp only [Nat.zero_add]; exact p3⟩)⟩
              rw [fits hfit]
              rw [hse] at r1
              simp only [add_at, Nat.zero_add]
              rw [r1]; rfl
            · obtain ⟨ie', z, hi', hz0, hzs, hb2, hb0, hb1⟩ := growOk_some hg
              rw [hi] at hi'
              simp only [Option.some.injEq] at hi'; subst hi'
              have hold : (Builtin.firstCells ie.size len (.slice (some ⟨cx.bm id, 0, none⟩) len cap)).run C.P w.drew = .ok ((arr.toList.drop 0).take (len * szOf C.P e)).toArray w.drew := by
                rw [← hse]
                exact load_block (P := C.P) (w := w.drew) (b := cx.bm id) (o := 0) (n := len * szOf C.P e) (arr := arr) (el := el) (fz := (0, 0)) c3 (by have := c4.2.2; omega)
              obtain ⟨nc, n1, n63, n2⟩ := run_append_grows (w := w) (ty := ty) (sLen := len) (sCap := cap) (n := n) (base := some ⟨cx.bm id, 0, none⟩) (u := u) (elemSl_some he) hi h2 s1 (by omega) hb0 hb1 hb2 hz0 hold (by rw [← hse]; exact s3 _ rfl)
              have hpw : Pw (ARel cx S w) (cs.take (len * szOf C.P e) ++ ys) (arr.toList.take (len * szOf C.P e) ++ fs) := by
                have := cells_pw c4.2.2 c5 0 (len * szOf C.P e) (by omega)
                simp only [List.drop_zero] at this
                exact Pw.append this s4
              have harr : ((arr.toList.drop 0).take (len * szOf C.P e)).toArray ++ fs.toArray ++ Builtin.zeroCells z.cells (nc - (len + n)) = (arr.toList.take (len * szOf C.P e) ++ fs).toArray ++ Builtin.zeroCells z.cells (nc - (len + n)) := by simp
              rw [harr] at n2
              generalize hblk0 : (arr.toList.take (len * szOf C.P e) ++ fs).toArray ++ Builtin.zeroCells z.cells (nc - (len + n)) = A at n2
              have hAsz : A.size = nc * szOf C.P e := by
                rw [← hblk0]
                simp only [Array.size_append, List.size_toArray, hpw.1, hnl, zeroCells_size, hzs, ← hse]
                rw [← Nat.add_mul]; congr 1; omega
              let cx' : Cx := { bm := fun i => if i = id then w.heap.size else cx.bm i, fp := fun i b => if i = id then b = w.heap.size else cx.fp i b, tsz := fun i => if i = id then (len + n) * szOf C.P e else cx.tsz i,
                                tot := fun i => if i = id then nc * szOf C.P e else cx.tot i, fr := fun b o => b = w.heap.size ∨ cx.fr b o }
              have hblk : (w.drew.alloc (.cells A e)).heap[w.heap.size]? = some (.cells A e) := heap_alloc_new w.drew _
              have hsize : (len + n) * szOf C.P e ≤ nc * szOf C.P e := Nat.mul_le_mul_right _ n1
              obtain ⟨k1, k2⟩ := blk_sound hR (cx' := cx') (w' := w.drew.alloc (.cells A e)) (g' := g + 1) (cs' := cs.take (len * szOf C.P e) ++ ys) hS hk (by omega) (by rw [size_alloc]; show w.heap.size ≤ w.heap.size + 1; omega) rfl rfl rfl
                (fun b hb _ => heap_alloc_old w.drew _ hb) (fun i hi => by simp [cx', hi]) (fun i hi b => by simp [cx', hi]) (fun i hi => by simp [cx', hi]) (fun i hi => by simp [cx', hi])
                (fun b hb => .inr (by simp only [cx', if_true] at hb; subst hb; rw [size_alloc]; exact ⟨Nat.le_refl _, Nat.lt_succ_self _⟩))
                (fun b o hf hlt q => q.elim (fun q => absurd q (by omega)) (fun q => hf q)) (fun b o hf => .inr hf) (fun b o q => by rw [size_alloc]; exact q.elim (fun q => by rw [q]; exact Nat.lt_succ_self _) (fun q => Nat.lt_succ_of_lt (hS.lt b o q)))
                (fun ext => by
                refine ⟨fun b => by simp [cx'], fun o => by simp [cx'], A, e, by simp only [cx', if_true]; exact hblk, ⟨by simp only [cx', if_true]; exact hAsz, by simp only [cx', if_true]; exact hnl, by rw [hAsz, hnl]; exact hsize⟩, fun i x hx => ?_⟩
                have hlt : i < (arr.toList.take (len * szOf C.P e) ++ fs).length := by rw [hpw.1]; exact (List.getElem?_eq_some_iff.1 hx).1
                have hu := List.getElem?_eq_getElem hlt
                refine ⟨_, ?_, (hpw.2.2 i x _ hx hu).mono ext, hpw.2.1 _ (List.getElem_mem hlt)⟩
                rw [← hblk0, Array.getElem?_append_left (by simpa using hlt)]
                simp)
              exact ⟨cx', _, _, n2, k1, k2, .msl id (g + 1) 0 (len + n) (len + n) _ _ nc hnm (Nat.le_refl _) n1 n63 (fun _ => ⟨by simp [cx'], by simp only [cx', if_true, Nat.zero_add]; exact hsize, by simp only [cx', if_true, Nat.zero_add]; exact Nat.le_refl _⟩)⟩
          · cases h
    · cases h
  · cases h

theorem zeros_pw {cx : Cx} {S : St} {w : World} {z : D} {zv : Value} (hz : DRel w cx.fr z zv) (n : Nat) (h0 : 0 < z.cells.length) : Pw (ARel cx S w) ((List.replicate n z.cells).flatten.map .d) (Builtin.zeroCells zv.cells n).toList := by
  have hc := hz.1.cells
  have hsz : zv.cells.size = z.cells.length := by rw [← hc.1]; simp
  have hp : Pw (DRel w cx.fr) z.cells zv.cells.toList := ⟨hc.1, hc.2.1, hc.2.2⟩
  have := (Pw.flat hp n).toAV (cx := cx) (S := S)
  rw [← zeros_flat zv.cells n (by omega)] at this
  exact this

theorem clear_sound {R : ObjR} (hR : ObjOk R) {C : Cfg} {cx : Cx} {S : St} {w : World} (hS : SRel R cx S w) {t e ty : Nat} {x : AV} {v : Value} {nx : Nxt} (h : clearAV C e S x = some nx) (he : elemSl C.P t = some e) (hx : ARel cx S w x v) :
    ∃ S' cx' w', nx = .val (.tup []) S' ∧ (Builtin.clear_ #[t] ty #[v]).run C.P w = .ok (.tuple #[]) w' ∧ SRel R cx' S' w' ∧ Ext cx S w cx' S' w' := by
  have hu := elemSl_some he
  unfold clearAV at h
  split at h
  · simp only [Option.some.injEq] at h; subst h
    have := nilsI hx.dd; subst this
    exact ⟨S, cx, w, rfl, by simp [Builtin.clear_, run_und w hu], hS, Ext.refl w hS.wf⟩
  · simp only [Option.some.injEq] at h; subst h
    obtain ⟨a, cap, rfl, _⟩ := slI hx.dd
    exact ⟨S, cx, w, rfl, by cases a <;> simp [Builtin.clear_, run_und w hu], hS, Ext.refl w hS.wf⟩
  · rename_i id g off len lim sz
    cases hx with
    | msl _ _ _ _ _ _ b cap hn hl hcap h63 hp =>
    split at h
    · rename_i h0
      subst h0
      simp only [Option.some.injEq] at h; subst h
      exact ⟨S, cx, w, rfl, by simp [Builtin.clear_, run_und w hu], hS, Ext.refl w hS.wf⟩
    · rename_i h0
      split at h
      · rename_i cs z hlk hz
        split at h
        · rename_i hc
          obtain ⟨rfl, hpos, hle⟩ := hc
          simp only [Option.some.injEq] at h; subst h
          have hk := look_some hlk
          obtain ⟨p1, p2, p3⟩ := hp (by simp [cur, hk])
          subst p1
          obtain ⟨c1, c2, arr, el, c3, c4, c5⟩ := hS.cells id g cs hk
          obtain ⟨zv, z1, z2⟩ := zero_sound hz w cx.fr
          have s4 := zeros_pw (S := S) z2 len hpos
          have hyl : ((List.replicate len z.cells).flatten.map AV.d).length = len * z.cells.length := by
            rw [← s4.1]
            have hsz : zv.cells.size = z.cells.length := by rw [← z2.1.cells.1]; simp
            simp [Builtin.zeroCells, hsz]
          generalize (List.replicate len z.cells).flatten.map AV.d = ys at s4 hyl
          generalize hfs : (Builtin.zeroCells zv.cells len).toList = fs at s4
          obtain ⟨w', r1, r2, r3, r4, r5, r6, r7, r8⟩ := storeCells_at (P := C.P) fs w (cx.bm id) off 0 arr el (0, 0) c3 s4.2.1 (by have := c4.2.2; have := s4.1; omega) (.inl rfl)
          have hw := write_sound hR (w' := w') (cs' := setAt cs off ys) (arr' := (setAt arr.toList (off + 0) fs).toArray) (el := el) hS hk r2 r3 r4 r5 r6 r8 (by simp [setAt_length]) (by simp [setAt_length]; exact c4.1) (fun i x hx => by
            rw [setAt_get _ _ _ _ (by omega)] at hx
            simp only [List.getElem?_toArray, Nat.add_zero]
            rw [setAt_get _ _ _ _ (by have := c4.2.2; have := s4.1; simp; omega)]
            by_cases hi : off ≤ i ∧ i < off + ys.length
            · rw [if_pos hi] at hx
              rw [if_pos (by rw [s4.1]; exact hi)]
              have hlt : i - off < fs.length := by rw [s4.1]; omega
              have hu := List.getElem?_eq_getElem hlt
              exact ⟨_, hu, s4.2.2 _ x _ hx hu, s4.2.1 _ (List.getElem_mem hlt)⟩
            · rw [if_neg hi] at hx
              rw [if_neg (by rw [s4.1]; exact hi)]
              obtain ⟨z, z1, z2, z3⟩ := c5 i x hx
              exact ⟨z, by simpa using z1, z2, z3⟩)
          refine ⟨_, cx, w', rfl, ?_, hw.1, hw.2⟩
          obtain ⟨m, hm⟩ := Nat.exists_eq_succ_of_ne_zero h0
          subst hm
          simp only [Builtin.clear_, List.getElem?_toArray, List.getElem?_cons_zero, Sem.run_bind, run_und w hu, Result.andThen_ok, z1, hfs, r1, Sem.run_pure]
        · cases h
      · cases h
  · cases h

/-- Cells of a row are written over. -/
theorem over_sound {R : ObjR} (hR : ObjOk R) {P : Program} {cx : Cx} {S : St} {w : World} (hS : SRel R cx S w) {id g off : Nat} {cs ys : List AV} {fs : List Value} (hk : S.H.get id = some (.cells g cs)) (hle : off + ys.length ≤ cs.length) (s4 : Pw (ARel cx S w) ys fs) :
    ∃ w', (storeCells ⟨cx.bm id, off, none⟩ fs).run P w = .ok () w' ∧ SRel R cx { S with H := S.H.set id (.cells g (setAt cs off ys)) } w' ∧ Ext cx S w cx { S with H := S.H.set id (.cells g (setAt cs off ys)) } w' := by
  obtain ⟨c1, c2, arr, el, c3, c4, c5⟩ := hS.cells id g cs hk
  obtain ⟨w', r1, r2, r3, r4, r5, r6, r7, r8⟩ := storeCells_at (P := P) fs w (cx.bm id) off 0 arr el (0, 0) c3 s4.2.1 (by have := c4.2.2; have := s4.1; omega) (.inl rfl)
  have hw := write_sound hR (w' := w') (cs' := setAt cs off ys) (arr' := (setAt arr.toList (off + 0) fs).toArray) (el := el) hS hk r2 r3 r4 r5 r6 r8 (by simp [setAt_length]) (by simp [setAt_length]; exact c4.1) (fun i x hx => by
    rw [setAt_get _ _ _ _ (by omega)] at hx
    simp only [List.getElem?_toArray, Nat.add_zero]
    rw [setAt_get _ _ _ _ (by have := c4.2.2; have := s4.1; simp; omega)]
    by_cases hi : off ≤ i ∧ i < off + ys.length
    · rw [if_pos hi] at hx
      rw [if_pos (by rw [s4.1]; exact hi)]
      have hlt : i - off < fs.length := by rw [s4.1]; omega
      have hu := List.getElem?_eq_getElem hlt
      exact ⟨_, hu, s4.2.2 _ x _ hx hu, s4.2.1 _ (List.getElem_mem hlt)⟩
    · rw [if_neg hi] at hx
      rw [if_neg (by rw [s4.1]; exact hi)]
      obtain ⟨z, z1, z2, z3⟩ := c5 i x hx
      exact ⟨z, by simpa using z1, z2, z3⟩)
  exact ⟨w', r1, hw.1, hw.2⟩

theorem copy_sound {R : ObjR} (hR : ObjOk R) {C : Cfg} {cx : Cx} {S : St} {w : World} (hS : SRel R cx S w) {t t2 e ty : Nat} {x y : AV} {v u : Value} {nx : Nxt} (h : copyAV C e S x y = some nx) (he : elemSl C.P t = some e) (hx : ARel cx S w x v) (hy : ARel cx S w y u) :
    ∃ n S' cx' w', nx = .val (.d (.int .i64 (n : Nat))) S' ∧ (Builtin.copy_ #[t, t2] ty #[v, u]).run C.P w = .ok (.int .i64 (n : Nat)) w' ∧ SRel R cx' S' w' ∧ Ext cx S w cx' S' w' := by
  have hu := elemSl_some he
  unfold copyAV at h
  split at h
  · rename_i id g off len lim sz
    split at h
    · rename_i cs hlk
      split at h
      · rename_i hc
        obtain ⟨rfl, hpos, hle⟩ := hc
        have hk := look_some hlk
        obtain ⟨ie, hi⟩ : ∃ i, C.P.info? e = some i := by
          unfold szOf at hpos
          split at hpos
          · exact ⟨_, by assumption⟩
          · omega
        have hse : szOf C.P e = ie.size := by simp [szOf, hi]
        have hs : (Go.sizeOf e).run C.P w = .ok ie.size w := by simp [Go.sizeOf, typeInfo, hi]
        cases hx with
        | msl _ _ _ _ _ _ b cap hn hl hcap h63 hp =>
        obtain ⟨p1, p2, p3⟩ := hp (by simp [cur, hk])
        subst p1
        split at h
        · rename_i id2 g2 off2 len2 lim2 sz2
          split at h
          · rename_i cs2 hlk2
            split at h
            · rename_i hc2
              obtain ⟨rfl, hle2⟩ := hc2
              simp only [Option.some.injEq] at h; subst h
              have hk2 := look_some hlk2
              cases hy with
              | msl _ _ _ _ _ _ b2 cap2 hn2 hl2 hcap2 h632 hp2 =>
              obtain ⟨p1', p2', p3'⟩ := hp2 (by simp [cur, hk2])
              subst p1'
              obtain ⟨c1, c2, arr, el, c3, c4, c5⟩ := hS.cells id2 g2 cs2 hk2
              have hmin : min len2 len * szOf C.P e ≤ len2 * szOf C.P e := Nat.mul_le_mul_right _ (Nat.min_le_left _ _)
              have hmin' : min len2 len * szOf C.P e ≤ len * szOf C.P e := Nat.mul_le_mul_right _ (Nat.min_le_right _ _)
              have s4 := cells_pw c4.2.2 c5 off2 (min len2 len * szOf C.P e) (by omega)
              have hld := load_block (P := C.P) (w := w) (o := off2) (n := min len2 len * szOf C.P e) c3 (by have := c4.2.2; omega)
              obtain ⟨w', r1, r2, r3⟩ := over_sound hR (P := C.P) (off := off) hS hk (by simp; omega) s4
              refine ⟨min len2 len, _, cx, w', rfl, ?_, r2, r3⟩
              have hf : (Builtin.firstCells ie.size (min len2 len) (.slice (some ⟨cx.bm id2, off2, none⟩) len2 cap2)).run C.P w = .ok ((arr.toList.drop off2).take (min len2 len * szOf C.P e)).toArray w := by rw [← hse]; exact hld
              have hln : (Builtin.lenOf (.slice (some ⟨cx.bm id2, off2, none⟩) len2 cap2)).run C.P w = .ok len2 w := rfl
              simp only [Builtin.copy_, List.getElem?_toArray, List.getElem?_cons_zero, List.getElem?_cons_succ, Sem.run_bind, run_und w hu, Result.andThen_ok, hln, hs, Nat.min_def] at hf ⊢
              simp only [Nat.min_def] at r1
              rw [hf]
              simp only [Result.andThen_ok, r1, Sem.run_pure, goInt]
            · cases h
          · cases h
        · split at h
          · rename_i ys n hsrc
            split at h
            · rename_i hnl
              simp only [Option.some.injEq] at h; subst h
              obtain ⟨s1, s2, fs, s3, s4⟩ := srcCells_sound (P := C.P) hS hsrc hy
              have hmul : n * szOf C.P e ≤ len * szOf C.P e := Nat.mul_le_mul_right _ hnl
              obtain ⟨w', r1, r2, r3⟩ := over_sound hR (P := C.P) (off := off) hS hk (by omega) s4
              refine ⟨n, _, cx, w', rfl, ?_, r2, r3⟩
              have hf : (Builtin.firstCells ie.size n u).run C.P w = .ok fs.toArray w := by rw [← hse]; exact s3 w rfl
              have hmin : Nat.min n len = n := Nat.min_eq_left hnl
              simp only [Builtin.copy_, List.getElem?_toArray, List.getElem?_cons_zero, List.getElem?_cons_succ, Sem.run_bind, run_und w hu, Result.andThen_ok, s1, hs, hmin, hf, r1, Sem.run_pure, goInt]
            · cases h
          · cases h
      · cases h
    · cases h
  · cases h

theorem make_sound {R : ObjR} (hR : ObjOk R) {C : Cfg} {cx : Cx} {S : St} {w : World} (hS : SRel R cx S w) {t : Nat} {l c : D} {r : AV × St} {lv cv : Value} (h : opMake C t S l c = some r) (hl : DRel w cx.fr l lv) (hc : DRel w cx.fr c cv) :
    ∃ cx' w' u, (Instr.makeSlice t lv cv).run C.P w = .ok u w' ∧ SRel R cx' r.2 w' ∧ Ext cx S w cx' r.2 w' ∧ ARel cx' r.2 w' r.1 u := by
  unfold opMake at h
  split at h
  · rename_i e k1 n1 k2 n2 he
    have a1 := hl.val rfl; cases a1
    have a2 := hc.val rfl; cases a2
    split at h
    · rename_i z hz
      split at h
      · rename_i hcond
        obtain ⟨c1, c2, c3, c4, c5, c6, c7, c8⟩ := hcond
        simp only [Option.some.injEq] at h; subst h
        obtain ⟨ie, hi⟩ : ∃ i, C.P.info? e = some i := by
          unfold szOf at c4
          split at c4
          · exact ⟨_, by assumption⟩
          · omega
        have hse : szOf C.P e = ie.size := by simp [szOf, hi]
        have hbe : bytesOf C.P e = ie.bytes := by simp [bytesOf, hi]
        obtain ⟨zv, z1, z2⟩ := zero_sound hz w cx.fr
        obtain ⟨zz, hzz⟩ : ∃ q, ie.zero = some q := by
          cases hq : ie.zero with
          | some q => exact ⟨q, rfl⟩
          | none => simp [zeroOf, hi, hq] at hz
        have hzv : zv = zz := by simpa [zeroValue, typeInfo, hi, hzz] using z1.symm
        subst hzv
        have hrun := run_makeSlice (P := C.P) w t e ie zv (elemSl_some he) hi hzz k1 k2 n1 n2 c1 c2 (by rw [← hse]; exact c5) (by rw [← hbe]; exact c6) (by omega)
        have s4 := zeros_pw (S := S) z2 n2.toNat (by omega)
        have hsz : zv.cells.size = szOf C.P e := by rw [← c3, ← z2.1.cells.1]; simp
        have hyl : ((List.replicate n2.toNat z.cells).flatten.map AV.d).length = n2.toNat * szOf C.P e := by
          rw [← s4.1]; simp [Builtin.zeroCells, hsz]
        obtain ⟨cx', k1', k2', k3'⟩ := newrow_sound hR hS _ _ #[] e n2.toNat (szOf C.P e) n2.toNat s4 hyl (Nat.le_refl _) (by omega) (by simp)
        have harr : (Builtin.zeroCells zv.cells n2.toNat).toList.toArray ++ #[] = madeCells zv.cells (n2.toNat * ie.size) := by
          rw [← hse, ← hsz]; apply Array.ext'; simp [Builtin.zeroCells, madeCells]
        rw [harr] at k1' k2' k3'
        refine ⟨cx', _, _, hrun, k1', k2', ?_⟩
        cases k3' with
        | msl _ _ _ _ _ _ b cap hn hll hcap h63 hp => exact .msl _ _ _ _ _ _ _ _ hn (by omega) hcap h63 hp
      · cases h
    · cases h
  · cases h

theorem buildRow_sound {R : ObjR} (hR : ObjOk R) {C : Cfg} {cx : Cx} {S : St} {w : World} (hS : SRel R cx S w) {ρ : Operand → Option AV} {σ : Operand → Value} (hρ : ρRel cx S w ρ σ) {t len : Nat} {parts : Array (Nat × Operand)}
    {ps : List (Nat × AV)} {nx : Nxt} (hps : evals ρ parts = some ps) (h : opBuildRow C t S len ps = some nx) :
    ∃ v S', nx = .val v S' ∧ ∃ cx' u w', (Instr.buildSlice t len (parts.map fun (i, x) => (i, σ x))).run C.P w = .ok u w' ∧ SRel R cx' S' w' ∧ Ext cx S w cx' S' w' ∧ ARel cx' S' w' v u := by
  obtain ⟨e1, e2⟩ := evals_sound hρ hps
  unfold opBuildRow at h
  split at h
  · rename_i e he
    split at h
    · rename_i z hz
      split at h
      · rename_i hc
        obtain ⟨c1, c2, c3, c4⟩ := hc
        cases hhas : S.H.has S.nx with
        | true => simp [hhas] at h
        | false =>
        simp only [hhas, cond_false, Option.map_eq_some_iff] at h
        obtain ⟨cs, hf, rfl⟩ := h
        have hu := elemSl_some he
        obtain ⟨ag, hag⟩ := Option.isSome_iff_exists.1 c4
        obtain ⟨d, hd⟩ := aggO_under hag
        obtain ⟨ie, hie⟩ := underlying_info hd
        have hse : szOf C.P e = ie.size := by simp [szOf, hie]
        obtain ⟨zv, r1, r2⟩ := zero_sound hz w cx.fr
        have hpw := r2.cellsPw
        have hsz : zv.cells.size = ie.size := by rw [← hse, ← c1, ← hpw.1]; simp
        have hP : Pw (ARel cx S w) ((List.replicate len z.cells).flatten.map AV.d) ((Array.range (len * ie.size)).map (zv.cells[· % zv.cells.size]!)).toList := by
          rw [← hsz, zeros_flat _ _ (by rw [hsz, ← hse]; exact Nat.pos_of_ne_zero (fun q => by rw [q, Nat.mul_zero] at c2; omega))]
          exact (hpw.flat len).toAV
        obtain ⟨arr', f1, f2⟩ := fill_sound (Rl := ARel cx S w) ps (parts.map fun (i, x) => (i, σ x)).toList _ cs _ hf e1 (fun i p u hp hu => ⟨(e2 i p u hp hu).1, fun ds hds => by
          unfold cellsP at hds
          cases hpn : p.2.plain with
          | true => rw [hpn] at hds; simp at hds; subst hds; exact plainAV_cells (e2 i p u hp hu).2 hpn
          | false => rw [hpn] at hds; simp at hds⟩) hP
        have hcl : cs.length = len * szOf C.P e := by
          rw [fillD_length _ _ _ hf, List.length_map, ← c1]
          simp
        have h3 : len ≤ len * szOf C.P e := Nat.le_mul_of_pos_right _ (Nat.pos_of_ne_zero (fun q => by rw [q, Nat.mul_zero] at c2; omega))
        obtain ⟨cx', k1, k2, k3⟩ := newrow_sound hR hS cs arr'.toList #[] e len (szOf C.P e) len f2 hcl (Nat.le_refl _) (by omega) (by simp)
        refine ⟨_, _, rfl, cx', .slice (some ⟨w.heap.size, 0, none⟩) len len, w.alloc (.cells arr' e), ?_, ?_, ?_, ?_⟩
        · have hsm' : ¬ len * ie.size > 2 ^ 24 := by rw [← hse]; have : (2 : Nat) ^ 24 = 16777216 := by decide
                                                     omega
          rw [hse] at f1
          simp only [Instr.buildSlice, Sem.run_bind, run_und w hu, Result.andThen_ok, run_sizeOf' w hd, hse]
          rw [if_neg hsm', if_neg (by rw [← hse]; omega)]
          simp only [Sem.run_bind, Sem.run_pure, Result.andThen_ok, r1]
          rw [f1]
          simp only [newRow, Sem.run_bind, Sem.run_pure, run_newObj, Result.andThen_ok]
          rfl
        · simpa using k1
        · simpa using k2
        · simpa using k3
      · cases h
    · cases h
  · cases h

end Go.Ev

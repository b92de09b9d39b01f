import Derived.Test.YtbjneeknddapfaaPartA
import Derived.Laws.MakeOwn
import Derived.Laws.StructEq
import Derived.MapKept
import Derived.Orders
import Derived.Laws.IdiomRangeMap
namespace Go.Ev
noncomputable section
set_option linter.unusedVariables false
set_option linter.unusedSimpArgs false

/-- A row goes on in another state of its own. -/
theorem blk_sound {R : ObjR} (hR : ObjOk R) {cx cx' : Cx} {S : St} {w w' : World} (h : SRel R cx S w) {id g g' : Nat} {cs cs' : List AV} (hg : S.H.get id = some (.cells g cs)) (hlt : g < g')
    (hs : w.heap.size ≤ w'.heap.size) (h1 : w'.os = w.os) (h2 : w'.tape = w.tape) (h3 : w'.output = w.output)
    (hoth : ∀ b, b < w.heap.size → b ≠ cx.bm id → w'.heap[b]? = w.heap[b]?)
    (hbm : ∀ i, i ≠ id → cx'.bm i = cx.bm i) (hfp : ∀ i, i ≠ id → ∀ b, (cx'.fp i b ↔ cx.fp i b)) (htsz : ∀ i, i ≠ id → cx'.tsz i = cx.tsz i) (htot : ∀ i, i ≠ id → cx'.tot i = cx.tot i)
    (hfpt : ∀ b, cx'.fp id b → b = cx.bm id ∨ (w.heap.size ≤ b ∧ b < w'.heap.size))
    (hfr1 : ∀ b o, ¬ cx.fr b o → b < w.heap.size → ¬ cx'.fr b o) (hfr2 : ∀ b o, cx.fr b o → cx'.fr b o) (hfr3 : ∀ b o, cx'.fr b o → b < w'.heap.size)
    (hnew : Ext cx S w cx' { S with H := S.H.set id (.cells g' cs') } w' → CellsR cx' { S with H := S.H.set id (.cells g' cs') } w' id cs') :
    SRel R cx' { S with H := S.H.set id (.cells g' cs') } w' ∧ Ext cx S w cx' { S with H := S.H.set id (.cells g' cs') } w' := by
  obtain ⟨t1, t2, tarr, tel, t3, t4, t5⟩ := h.cells id g cs hg
  have hlive : live S id := by simp [live, cur, hg]
  have hcur : ∀ i, i ≠ id → cur { S with H := S.H.set id (.cells g' cs') } i = cur S i := fun i hi => by
    unfold cur; simp only [AL.get_set, if_neg (Ne.symm hi)]
  have hcurt : cur { S with H := S.H.set id (.cells g' cs') } id = some g' := by unfold cur; simp [AL.get_set]
  have hl' : ∀ i, live { S with H := S.H.set id (.cells g' cs') } i → live S i := fun i hl => by
    by_cases hi : i = id
    · subst hi; exact hlive
    · unfold live at *; rwa [hcur i hi] at hl
  have e : Ext cx S w cx' { S with H := S.H.set id (.cells g' cs') } w' := by
    refine ⟨hs, h1, h2, h3, Nat.le_refl _, fun b o v hf hcl => ⟨?_, hfr1 b o hf (cell_lt hcl)⟩, fun b hb hn => ?_, fun i b hl hf => ?_, fun i gi _ hi => ⟨gi, by
      unfold isIt at *
      simp only [AL.get_set] at hi
      split at hi
      · cases hi
      · exact hi⟩, fun i gi b _ h0 _ hf => (hfp i (fun q => by subst q; unfold isIt at h0; rw [hg] at h0; cases h0) b).2 hf, fun i gg hi hgg => ?_⟩
    · have hne : b ≠ cx.bm id := fun q => hf (by rw [q]; exact t2 o)
      exact cell_old (hoth b (cell_lt hcl) hne) hcl
    · have hne : b ≠ cx.bm id := fun q => notIt hg (by simp) (hn id hlive ((t1 b).2 q))
      exact ⟨hoth b hb hne, fun o => ⟨fun q => Classical.byContradiction fun q' => hfr1 b o q' hb q, hfr2 b o⟩⟩
    · refine ⟨fun _ => ⟨hl' i hl, ?_⟩, fun hge => absurd (h.wf i (hl' i hl)) (by show ¬ i < S.nx; omega)⟩
      by_cases hi : i = id
      · subst hi
        rcases hfpt b hf with q | q
        · exact .inl ((t1 b).2 q)
        · exact .inr q.1
      · exact .inl ((hfp i hi b).1 hf)
    · by_cases hi' : i = id
      · subst hi'
        rw [hcurt] at hgg
        simp only [Option.some.injEq] at hgg
        exact ⟨g, by simp [cur, hg], by omega, fun q => by omega⟩
      · rw [hcur i hi'] at hgg
        exact ⟨gg, hgg, Nat.le_refl _, fun _ => ⟨hbm i hi', htsz i hi', htot i hi'⟩⟩
  have hne : ∀ i, live S i → i ≠ id → ∀ b, cx.fp i b → b ≠ cx.bm id := fun i hi hne b hf hq => hne (h.sep i id b hi hlive hf ((t1 b).2 hq))
  refine ⟨⟨fun i hi => h.wf i (hl' i hi), fun i b hi => ?_, fun i gg cs2 hi => ?_, fun i es hi => ?_, fun i k x hi => ?_, fun i n hi => ?_, fun i i' b a1 a2 f1 f2 => ?_, hfr3, hR.stat _ _ _ _ h.stat e.prot⟩, e⟩
  · simp only [AL.get_set] at hi
    by_cases q : id = i
    · subst q; exact h.dis id _ hg
    · rw [if_neg q] at hi; exact h.dis i b hi
  · simp only [AL.get_set] at hi
    by_cases q : id = i
    · subst q
      simp only [if_true, Option.some.injEq, Blk.cells.injEq] at hi
      obtain ⟨_, rfl⟩ := hi
      exact hnew e
    · rw [if_neg q] at hi
      have q' := Ne.symm q
      obtain ⟨d1, d2, arr2, el2, d3, d4, d5⟩ := h.cells i gg cs2 hi
      have hb := hne i (by simp [live, cur, hi]) q' _ ((d1 _).2 rfl)
      refine ⟨fun b => by rw [hfp i q', hbm i q']; exact d1 b, fun o => by rw [hbm i q']; exact hfr2 _ _ (d2 o), arr2, el2, ?_, by rw [htsz i q', htot i q']; exact d4, fun j x hx => by
        obtain ⟨v, v1, v2, v3⟩ := d5 j x hx
        exact ⟨v, v1, v2.mono e, v3⟩⟩
      rw [hbm i q', hoth _ (h.lt _ 0 (d2 0)) hb]; exact d3
  · simp only [AL.get_set] at hi
    by_cases q : id = i
    · subst q; simp at hi
    · rw [if_neg q] at hi
      have q' := Ne.symm q
      obtain ⟨d1, d2, ms, clk, d3, d4, d5⟩ := h.maps i es hi
      have hb := hne i (by simp [live, cur, hi]) q' _ ((d1 _).2 rfl)
      refine ⟨fun b => by rw [hfp i q', hbm i q']; exact d1 b, fun o => by rw [hbm i q']; exact hfr2 _ _ (d2 o), ms, clk, ?_, d4, fun j p m hp hm => by
        obtain ⟨v1, v2⟩ := d5 j p m hp hm
        exact ⟨v1.mono e.prot, v2.mono e⟩⟩
      rw [hbm i q', hoth _ (h.lt _ 0 (d2 0)) hb]; exact d3
  · simp only [AL.get_set] at hi
    by_cases q : id = i
    · subst q; simp at hi
    · rw [if_neg q] at hi
      have q' := Ne.symm q
      obtain ⟨d1, d2⟩ := h.objs i k x hi
      have hf : cx'.fp i = cx.fp i := funext fun b => propext (hfp i q' b)
      rw [hbm i q', hf]
      have hb := hne i (by simp [live, cur, hi]) q'
      exact ⟨hR.frame k x w w' _ _ d1 (fun c hc => hoth c ((hR.lt k x w _ _ d1).1 c hc) (hb c hc)), fun b o hbf => hfr2 b o (d2 b o hbf)⟩
  · have hi' : S.T.get i = some n := hi
    have q : i ≠ id := fun q => by subst q; have := h.dis i _ hg; rw [this] at hi'; cases hi'
    obtain ⟨hci, hHi⟩ := cur_T h hi'
    obtain ⟨d1, d2, arr2, el2, fz, d3, d4, d5, d6⟩ := h.toks i n hi'
    have hb := hne i (by simp [live, hci]) q _ ((d1 _).2 rfl)
    have hlt : cx.bm i < w.heap.size := h.lt _ _ (d2 _ (Nat.le_refl _))
    refine ⟨fun b => by rw [hfp i q, hbm i q]; exact d1 b, fun o ho => ?_, arr2, el2, fz, ?_, ?_, ?_, ?_⟩
    · rw [htsz i q] at ho; rw [hbm i q]; exact hfr2 _ _ (d2 o ho)
    · rw [hbm i q, hoth _ hlt hb]; exact d3
    · rw [htsz i q, htot i q]; exact d4
    · rw [htot i q]; exact d5
    · rw [htsz i q]; exact d6
  · by_cases q : i = id <;> by_cases q' : i' = id
    · omega
    · exfalso
      subst q
      have f2' := (hfp i' q' b).1 f2
      have hb := hne i' (hl' i' a2) q' b f2'
      rcases hfpt b f1 with z | z
      · exact hb z
      · have := h.fp_lt hR (hl' i' a2) f2'; omega
    · exfalso
      subst q'
      have f1' := (hfp i q b).1 f1
      have hb := hne i (hl' i a1) q b f1'
      rcases hfpt b f2 with z | z
      · exact hb z
      · have := h.fp_lt hR (hl' i a1) f1'; omega
    · exact h.sep i i' b (hl' i a1) (hl' i' a2) ((hfp i q b).1 f1) ((hfp i' q' b).1 f2)

theorem Flat.cons {w : World} {fr : Nat → Nat → Prop} {sz : Nat} {x : D} {xs : List D} {fl : List Value} (h : Flat w fr sz (x :: xs) fl) : CRel w fr x (fl.take sz) ∧ Flat w fr sz xs (fl.drop sz) := by
  have h0 := h.rel 0 x rfl
  simp only [Nat.zero_mul, List.drop_zero] at h0
  have hl := h.len
  simp only [List.length_cons, Nat.succ_mul] at hl
  refine ⟨h0, by simp; omega, fun v hv => h.one v (List.mem_of_mem_drop hv), fun y hy => h.szs y (by simp [hy]), fun i y hy => ?_⟩
  have := h.rel (i + 1) y (by simpa using hy)
  rw [Nat.succ_mul, Nat.add_comm] at this
  rwa [List.drop_drop]

theorem Flat.pw {w : World} {fr : Nat → Nat → Prop} {sz : Nat} : ∀ {xs : List D} {fl : List Value}, Flat w fr sz xs fl → Pw (DRel w fr) (xs.map D.cells).flatten fl
  | [], fl, h => by
    have : fl = [] := by have := h.len; simpa using this
    subst this; exact Pw.nil
  | x :: xs, fl, h => by
    obtain ⟨h1, h2⟩ := h.cons
    have hc := h1.cells
    have := Pw.append (Rl := DRel w fr) (cs := x.cells) (vs := fl.take sz) ⟨hc.1, hc.2.1, hc.2.2⟩ h2.pw
    rw [List.take_append_drop] at this
    simpa using this

theorem Pw.toAV {cx : Cx} {S : St} {w : World} {ds : List D} {vs : List Value} (h : Pw (DRel w cx.fr) ds vs) : Pw (ARel cx S w) (ds.map .d) vs := by
  obtain ⟨h1, h2, h3⟩ := h
  refine ⟨by simp [h1], h2, fun i x v hx hv => ?_⟩
  simp only [List.getElem?_map, Option.map_eq_some_iff] at hx
  obtain ⟨y, hy, rfl⟩ := hx
  exact .d y v (h3 i y v hy hv)

theorem Pw.mono {cx cx' : Cx} {S S' : St} {w w' : World} {ds : List AV} {vs : List Value} (h : Pw (ARel cx S w) ds vs) (e : Ext cx S w cx' S' w') : Pw (ARel cx' S' w') ds vs :=
  ⟨h.1, h.2.1, fun i x v hx hv => (h.2.2 i x v hx hv).mono e⟩

/-- Cells of a block, read. -/
theorem load_block {P : Program} {w : World} {b o n : Nat} {arr : Array Value} {el : Nat} {fz : Nat × Nat} (hb : w.heap[b]? = some (.cells arr el fz)) (hle : o + n ≤ arr.size) :
    (loadCells ⟨b, o, none⟩ n).run P w = .ok ((arr.toList.drop o).take n).toArray w := by
  have hl : ((arr.toList.drop o).take n).length = n := by simp; omega
  have := run_loadCells_list (P := P) w ⟨b, o, none⟩ ((arr.toList.drop o).take n) (fun j v hj => by
    rw [add_at, cell_of hb]
    have hlt := (List.getElem?_eq_some_iff.1 hj).1
    rw [hl] at hlt
    rw [List.getElem?_take, if_pos hlt, List.getElem?_drop] at hj
    simpa using hj)
  rwa [hl] at this

theorem cells_pw {cx : Cx} {S : St} {w : World} {cs : List AV} {arr : Array Value} (hle : cs.length ≤ arr.size) (h : ∀ (i : Nat) (x : AV), cs[i]? = some x → ∃ v, arr[i]? = some v ∧ ARel cx S w x v ∧ v.oneCell' = true) (o n : Nat) (hn : o + n ≤ cs.length) :
    Pw (ARel cx S w) ((cs.drop o).take n) ((arr.toList.drop o).take n) := by
  have hex : ∀ (i : Nat) (v : Value), ((arr.toList.drop o).take n)[i]? = some v → i < n ∧ arr[o + i]? = some v := fun i v hv => by
    have hlt := (List.getElem?_eq_some_iff.1 hv).1
    have hi : i < n := by simp at hlt; omega
    rw [List.getElem?_take, if_pos hi, List.getElem?_drop] at hv
    exact ⟨hi, by simpa using hv⟩
  refine ⟨by simp; omega, fun v hv => ?_, fun i x v hx hv => ?_⟩
  · obtain ⟨i, hi⟩ := List.mem_iff_getElem?.1 hv
    obtain ⟨h1, h2⟩ := hex i v hi
    obtain ⟨u, u1, u2, u3⟩ := h (o + i) cs[o + i] (List.getElem?_eq_getElem (by omega))
    rw [u1] at h2; cases h2; exact u3
  · obtain ⟨h1, h2⟩ := hex i v hv
    rw [List.getElem?_take, if_pos h1, List.getElem?_drop] at hx
    obtain ⟨u, u1, u2, u3⟩ := h (o + i) x hx
    rw [u1] at h2; cases h2; exact u2

theorem look_some {S : St} {id g : Nat} {cs : List AV} (h : S.look id g = some cs) : S.H.get id = some (.cells g cs) := by
  unfold St.look at h
  split at h
  · rename_i g' cs' hg
    cases hb : Nat.beq g' g
    · simp [hb] at h
    · have := Nat.eq_of_beq_eq_true hb
      subst this
      simp only [hb, cond_true, Option.some.injEq] at h
      subst h; exact hg
  · cases h

/-- A slice of data, read in any world of the same memory. -/
theorem first_heap {P : Program} {w : World} {fr : Nat → Nat → Prop} {xs : List D} {tight : Bool} {v : Value} {sz : Nat} (h : DRel w fr (.sl xs tight) v) (hs : sizes sz xs = true) :
    ∃ fl, (∀ w', w'.heap = w.heap → (Builtin.firstCells sz xs.length v).run P w' = .ok fl.toArray w') ∧ Flat w fr sz xs fl := by
  obtain ⟨fl, f1, f2, f3⟩ := first_sound (P := P) h hs
  refine ⟨fl, fun w' hw => ?_, f2⟩
  obtain ⟨a, cap, rfl, _, _, hm⟩ := slI h
  cases a with
  | none =>
    have : xs = [] := Classical.byContradiction fun q => by
      obtain ⟨b, off, s, vs, e, _⟩ := hm q; cases e
    subst this
    have : fl = [] := by have := f2.len; simpa using this
    subst this
    simp [Builtin.firstCells]
  | some ad =>
    by_cases q : xs = []
    · subst q
      have : fl = [] := by have := f2.len; simpa using this
      subst this
      simp [Builtin.firstCells, loadCells, loadCellsFrom]
    · obtain ⟨b, off, s, vs, e, _⟩ := hm q
      simp only [Option.some.injEq] at e; subst e
      have := run_loadCells_list (P := P) w' ⟨b, off, none⟩ fl (fun j u hj => by
        rw [add_at]
        have := f3 b off _ _ rfl j u hj
        simp only [World.cell?] at this ⊢
        rw [hw]; exact this)
      rw [f2.len] at this
      exact this

/-- What is put behind, read. -/
theorem asRow_sound {cx : Cx} {S : St} {w : World} {x : AV} {id g off len sz : Nat} {v : Value} (h : asRowAV x = some (id, g, off, len, sz)) (hx : ARel cx S w x v) :
    ∃ b cap, v = .slice (some ⟨b, off, none⟩) len cap ∧ len ≤ cap ∧ cap ≤ 9223372036854775807 ∧ (cur S id = some g → b = cx.bm id) := by
  cases hx <;> try (cases h; done)
  case msl id g off len lim sz b cap hn hl hcap h63 hp =>
    cases h
    exact ⟨b, cap, rfl, by omega, h63, fun hc => (hp hc).1⟩
  case asl id g off len sz b hn h63 hp =>
    cases h
    exact ⟨b, len, rfl, Nat.le_refl _, h63, hp⟩

theorem srcCells_sound {R : ObjR} {P : Program} {cx : Cx} {S : St} {w : World} (hS : SRel R cx S w) {sz n : Nat} {y : AV} {ys : List AV} {u : Value} (h : srcCells S sz y = some (ys, n)) (hy : ARel cx S w y u) :
    (Builtin.lenOf u).run P w = .ok n w ∧ ys.length = n * sz ∧ ∃ fl, (∀ w', w'.heap = w.heap → (Builtin.firstCells sz n u).run P w' = .ok fl.toArray w') ∧ Pw (ARel cx S w) ys fl := by
  unfold srcCells at h
  split at h
  · rename_i id g off len sz' hrow
    split at h
    · rename_i cs hlk
      split at h
      · rename_i hc
        obtain ⟨rfl, hpos, hle⟩ := hc
        simp only [Option.some.injEq, Prod.mk.injEq] at h
        obtain ⟨rfl, rfl⟩ := h
        have hk := look_some hlk
        obtain ⟨b, cap, rfl, hl1, hl2, hp⟩ := asRow_sound hrow hy
        have p1 := hp (by simp [cur, hk])
        subst p1
        obtain ⟨c1, c2, arr, el, c3, c4, c5⟩ := hS.cells id g cs hk
        refine ⟨rfl, by simp; omega, (arr.toList.drop off).take (len * sz'), fun w' hw => ?_, cells_pw c4.2.2 c5 off (len * sz') hle⟩
        exact load_block (P := P) (w := w') (by rw [hw]; exact c3) (by have := c4.2.2; omega)
      · cases h
    · cases h
  rename_i hrow
  split at h
  · rename_i s
    split at h
    · rename_i hsz
      subst hsz
      simp only [Option.some.injEq, Prod.mk.injEq] at h
      obtain ⟨rfl, rfl⟩ := h
      obtain ⟨b, rfl, rfl⟩ := hy.str
      have hbl : b.data.toList.length = b.size := Array.length_toList
      obtain ⟨fl, f1, f2⟩ := first_str (P := P) (w := w) (fr := cx.fr) b
      refine ⟨by simp only [Builtin.lenOf, Sem.run_pure]; rw [hbl], by simp, fl, fun w' _ => ?_, ?_⟩
      · simp only [Builtin.firstCells, Sem.run_pure, Result.ok.injEq, and_true] at f1 ⊢
        rw [hbl]; exact f1
      · have := f2.pw.toAV (cx := cx) (S := S)
        have e : (List.map D.cells (List.map (fun c : UInt8 => D.int .u8 c.toNat) b.data.toList)).flatten.map AV.d = b.data.toList.map fun c => .d (.int .u8 c.toNat) := by
          generalize b.data.toList = l
          induction l with
          | nil => rfl
          | cons c l ih => simp only [List.map_cons, List.flatten_cons, List.map_append, ih, D.cells, List.map_nil, List.singleton_append]
        rw [e] at this
        exact this
    · cases h
  · rename_i hn1 hn2
    split at h
    · rename_i xs hd
      split at h
      · rename_i hs
        simp only [Option.some.injEq, Prod.mk.injEq] at h
        obtain ⟨rfl, rfl⟩ := h
        obtain ⟨tight, hr⟩ := dataSl hd hy
        obtain ⟨fl, f1, f2⟩ := first_heap (P := P) hr hs
        have hpw := f2.pw.toAV (cx := cx) (S := S)
        refine ⟨?_, by rw [← hpw.1, f2.len], fl, f1, hpw⟩
        obtain ⟨a, cap, rfl, _⟩ := slI hr
        rfl
      · cases h
    · cases h

/-- A new row: some cells known, the others free. -/
theorem newrow_sound {R : ObjR} (hR : ObjOk R) {cx : Cx} {S : St} {w : World} (h : SRel R cx S w) (cs : List AV) (vs : List Value) (rest : Array Value) (el len sz cap : Nat) (hp : Pw (ARel cx S w) cs vs)
    (hc : cs.length = len * sz) (hcap : len ≤ cap) (h63 : cap ≤ 9223372036854775807) (hr : rest.size = (cap - len) * sz) :
    ∃ cx', SRel R cx' (opNew S cs).2 (w.alloc (.cells (vs.toArray ++ rest) el)) ∧ Ext cx S w cx' (opNew S cs).2 (w.alloc (.cells (vs.toArray ++ rest) el)) ∧
      ARel cx' (opNew S cs).2 (w.alloc (.cells (vs.toArray ++ rest) el)) (.msl S.nx 0 0 len len sz) (.slice (some ⟨w.heap.size, 0, none⟩) len cap) := by
  obtain ⟨nH, nT⟩ := not_live_nx h
  obtain ⟨hl, ho, hv⟩ := hp
  have hsz : (vs.toArray ++ rest).size = cap * sz := by
    simp only [Array.size_append, List.size_toArray, hr, hl, hc]
    rw [← Nat.add_mul]; congr 1; omega
  have hle : len * sz ≤ cap * sz := Nat.mul_le_mul_right _ hcap
  have hH : ∀ id, id ≠ S.nx → (opNew S cs).2.H.get id = S.H.get id := fun id hid => by simp [opNew, newBlk, AL.get_set, Ne.symm hid]
  have hT : ∀ id, id ≠ S.nx → (opNew S cs).2.T.get id = S.T.get id := fun id hid => rfl
  have hc' : ∀ id, id ≠ S.nx → cur (opNew S cs).2 id = cur S id := fun id hid => by unfold cur; rw [hH id hid, hT id hid]
  have hnew : (opNew S cs).2.H.get S.nx = some (.cells 0 cs) := by simp [opNew, newBlk, AL.get_set]
  have e := Ext.fresh (S' := (opNew S cs).2) h (.cells (vs.toArray ++ rest) el) (len * sz) (cap * sz) (fun _ => True) rfl hc' hH
  refine ⟨cx.new S.nx w.heap.size (len * sz) (cap * sz) (fun _ => True), SRel.fresh hR h _ (len * sz) (cap * sz) _ rfl hH hT (fun b _ => nT) (fun g cs' hg => ?_) (fun es hg => ?_) (fun k x hg => ?_) (fun en hg => ?_), e, ?_⟩
  · rw [hnew] at hg
    obtain ⟨rfl, rfl⟩ : 0 = g ∧ cs = cs' := by simpa using hg
    refine ⟨fun c => by simp [Cx.new], fun o => by simp [Cx.new], vs.toArray ++ rest, el, by simp only [Cx.new, if_true]; exact heap_alloc_new w _, ?_, fun i x hx => ?_⟩
    · simp only [Cx.new, if_true]
      exact ⟨hsz, hc, by rw [hsz, hc]; exact hle⟩
    · have hi : i < vs.length := by rw [hl]; exact (List.getElem?_eq_some_iff.1 hx).1
      refine ⟨vs[i], ?_, (hv i x vs[i] hx (List.getElem?_eq_getElem hi)).mono e, ho _ (List.getElem_mem hi)⟩
      rw [Array.getElem?_append_left (by simpa using hi)]
      simp [hi]
  · rw [hnew] at hg; cases hg
  · rw [hnew] at hg; cases hg
  · have : (opNew S cs).2.T.get S.nx = none := nT
    rw [this] at hg; cases hg
  · exact .msl S.nx 0 0 len len sz w.heap.size cap ⟨by simp [opNew, newBlk], fun g' _ => Nat.zero_le _⟩ (Nat.le_refl _) hcap h63 (fun _ => by simp only [Cx.new, if_true, Nat.zero_add]; exact ⟨trivial, hle, Nat.le_refl _⟩)

theorem growOk_some {C : Cfg} {e n : Nat} (h : growOk C e n = true) : ∃ i z, C.P.info? e = some i ∧ i.zero = some z ∧ z.cells.size = i.size ∧ n * i.bytes ≤ bound ∧ 0 < i.bytes ∧ i.bytes ≤ 65536 := by
  unfold growOk at h
  simp only [Bool.and_eq_true] at h
  obtain ⟨⟨⟨h1, h2⟩, h3⟩, h4⟩ := h
  obtain ⟨i, z, hi, hz, hs⟩ := zeroOk_some h4
  have hb : bytesOf C.P e = i.bytes := by simp [bytesOf, hi]
  rw [hb] at h1 h2 h3
  exact ⟨i, z, hi, hz, hs, Nat.le_of_ble_eq_true h1, Nat.le_of_ble_eq_true h2, Nat.le_of_ble_eq_true h3⟩

theorem appendFirst_sound {R : ObjR} (hR : ObjOk R) {C : Cfg} {cx : Cx} {S S' : St} {w : World} (hS : SRel R cx S w) {t t2 e ty : Nat} {xs : List D} {x y r : AV} {a : Option Addr} {cap : Nat} {u : Value} (h : appendFirst C e S x xs y = some (r, S')) (he : elemSl C.P t = some e) (h2 : okSrc C t2 = true)
    (hold : ∀ sz, sizes sz xs = true → ∃ fl, (∀ w', w'.heap = w.heap → (Builtin.firstCells sz xs.length (.slice a xs.length cap)).run C.P w' = .ok fl.toArray w') ∧ Flat w cx.fr sz xs fl) (hcap : cap = xs.length) (hx : ARel cx S w x (.slice a xs.length cap)) (hy : ARel cx S w y u) :
    ∃ cx' w' z, (Builtin.append_ #[t, t2] ty #[.slice a xs.length cap, u]).run C.P w = .ok z w' ∧ SRel R cx' S' w' ∧ Ext cx S w cx' S' w' ∧ ARel cx' S' w' r z := by
  unfold appendFirst at h
  split at h
  · rename_i ys n hsrc
    split at h
    · rename_i hn0
      subst hn0
      split at h
      · rename_i hinf
        simp only [Option.some.injEq, Prod.mk.injEq] at h
        obtain ⟨rfl, rfl⟩ := h
        obtain ⟨ie, hi⟩ := Option.isSome_iff_exists.1 hinf
        have hse : szOf C.P e = ie.size := by simp [szOf, hi]
        obtain ⟨s1, s2, fs, s3, s4⟩ := srcCells_sound (P := C.P) hS hsrc hy
        have hfs : fs = [] := List.eq_nil_of_length_eq_zero (by rw [s4.1, s2, Nat.zero_mul])
        subst hfs
        refine ⟨cx, w, _, ?_, hS, Ext.refl w hS.wf, hx⟩
        rw [run_append_fits (w := w) (ty := ty) (sLen := xs.length) (sCap := cap) (n := 0) (base := a) (u := u) (elemSl_some he) hi h2 s1 (by omega) (by rw [← hse]; exact s3 w rfl)]
        cases a with
        | none => rfl
        | some a => simp [storeCells]
      · cases h
    split at h
    · rename_i hc
      obtain ⟨hn, hpos, hsx, hg⟩ := hc
      simp only [Option.some.injEq, Prod.mk.injEq] at h
      obtain ⟨rfl, rfl⟩ := h
      obtain ⟨s1, s2, fs, s3, s4⟩ := srcCells_sound (P := C.P) hS hsrc hy
      obtain ⟨ie, z, hi, hz0, hzs, hb2, hb0, hb1⟩ := growOk_some hg
      have hse : szOf C.P e = ie.size := by simp [szOf, hi]
      obtain ⟨fl, f1, f2⟩ := hold _ hsx
      obtain ⟨nc, n1, n63, n2⟩ := run_append_grows (w := w) (ty := ty) (sLen := xs.length) (sCap := cap) (n := n) (base := a) (u := u) (elemSl_some he) hi h2 s1 (by omega) hb0 hb1 hb2 hz0 (by rw [← hse]; exact f1 _ rfl) (by rw [← hse]; exact s3 _ rfl)
      obtain ⟨hd1, hd2⟩ := drew_sound hR hS
      have hpw : Pw (ARel cx S w.drew) ((xs.map D.cells).flatten.map .d ++ ys) (fl ++ fs) := Pw.append ((f2.pw.toAV (cx := cx) (S := S)).mono hd2) (s4.mono hd2)
      have hlen : ((xs.map D.cells).flatten.map AV.d ++ ys).length = (xs.length + n) * szOf C.P e := by
        rw [List.length_append, s2, ← (f2.pw.toAV (cx := cx) (S := S)).1, f2.len, Nat.add_mul]
      obtain ⟨cx', k1, k2, k3⟩ := newrow_sound hR hd1 _ _ (Builtin.zeroCells z.cells (nc - (xs.length + n))) e (xs.length + n) (szOf C.P e) nc hpw hlen n1 n63 (by rw [zeroCells_size, hzs, hse])
      have harr : fl.toArray ++ fs.toArray ++ Builtin.zeroCells z.cells (nc - (xs.length + n)) = (fl ++ fs).toArray ++ Builtin.zeroCells z.cells (nc - (xs.length + n)) := by simp
      rw [harr] at n2
      exact ⟨cx', _, _, n2, k1, hd2.trans k2, k3⟩
    · cases h
  · cases h

theorem appendRow_sound {R : ObjR} (hR : ObjOk R) {C : Cfg} {cx : Cx} {S S' : St} {w : World} (hS : SRel R cx S w) {t t2 e ty id g off len lim sz : Nat} {y r : AV} {v u : Value} (h : appendRow C e S id g off len lim sz y = some (r, S')) (he : elemSl C.P t = some e) (h2 : okSrc C t2 = true)
    (hx : ARel cx S w (.msl id g off len lim sz) v) (hy : ARel cx S w y u) :
    ∃ cx' w' z, (Builtin.append_ #[t, t2] ty #[v, u]).run C.P w = .ok z w' ∧ SRel R cx' S' w' ∧ Ext cx S w cx' S' w' ∧ ARel cx' S' w' r z := by
  unfold appendRow at h
  split at h
  · rename_i ys n cs hsrc hlk
    split at h
    · rename_i hc
      obtain ⟨rfl, hpos, hle⟩ := hc
      obtain ⟨s1, s2, fs, s3, s4⟩ := srcCells_sound (P := C.P) hS hsrc hy
      have hfsl : fs.length = n * szOf C.P e := by rw [s4.1, s2]
      have hk := look_some hlk
      obtain ⟨ie, hi⟩ : ∃ i, C.P.info? e = some i := by
        unfold szOf at hpos
        split at hpos
        · exact ⟨_, by assumption⟩
        · omega
      have hse : szOf C.P e = ie.size := by simp [szOf, hi]
      have hlive : cur S id = some g := by simp [cur, hk]
      cases hx with
      | msl _ _ _ _ _ _ b cap hn hl hcap h63 hp =>
      obtain ⟨p1, p2, p3⟩ := hp hlive
      subst p1
      obtain ⟨c1, c2, arr, el, c3, c4, c5⟩ := hS.cells id g cs hk
      have fits := fun (hfit : len + n ≤ cap) => run_append_fits (w := w) (ty := ty) (sLen := len) (sCap := cap) (n := n) (base := some ⟨cx.bm id, off, none⟩) (u := u) (elemSl_some he) hi h2 s1 hfit (by rw [← hse]; exact s3 w rfl)
      have stor := fun (hfit : off + len * szOf C.P e + fs.length ≤ arr.size) => storeCells_at (P := C.P) fs w (cx.bm id) (off + len * szOf C.P e) 0 arr el (0, 0) c3 s4.2.1 (by omega) (.inl rfl)
      split at h
      · rename_i hn0
        subst hn0
        simp only [Option.some.injEq, Prod.mk.injEq] at h
        obtain ⟨rfl, rfl⟩ := h
        have hfs : fs = [] := List.eq_nil_of_length_eq_zero (by rw [hfsl]; omega)
        subst hfs
        refine ⟨cx, w, _, ?_, hS, Ext.refl w hS.wf, .msl id g off len lim _ _ cap hn hl hcap h63 hp⟩
        rw [fits (by omega)]
        simp [storeCells]
      · rename_i hn0
        split at h
        · rename_i hfitc
          simp only [Option.some.injEq, Prod.mk.injEq] at h
          obtain ⟨rfl, rfl⟩ := h
          have hfit : len + n ≤ cap := by
            have h1 : (len + n) * szOf C.P e ≤ cap * szOf C.P e := by rw [Nat.add_mul]; have := c4.2.1; omega
            exact Nat.le_of_mul_le_mul_right h1 hpos
          obtain ⟨w', r1, r2, r3, r4, r5, r6, r7, r8⟩ := stor (by have := c4.2.2; omega)
          have hw := write_sound hR (w' := w') (cs' := setAt cs (off + len * szOf C.P e) ys) (arr' := (setAt arr.toList (off + len * szOf C.P e + 0) fs).toArray) (el := el) hS hk r2 r3 r4 r5 r6 r8 (by simp [setAt_length]) (by simp [setAt_length]; exact c4.1) (fun i x hx => by
            rw [setAt_get _ _ _ _ (by omega)] at hx
            simp only [List.getElem?_toArray, Nat.add_zero]
            rw [setAt_get _ _ _ _ (by have := c4.2.2; simp; omega)]
            by_cases hi : off + len * szOf C.P e ≤ i ∧ i < off + len * szOf C.P e + ys.length
            · rw [if_pos hi] at hx
              rw [if_pos (by rw [s4.1]; exact hi)]
              have hlt : i - (off + len * szOf C.P e) < fs.length := by rw [s4.1]; omega
              have hu := List.getElem?_eq_getElem hlt
              exact ⟨_, hu, s4.2.2 _ x _ hx hu, s4.2.1 _ (List.getElem_mem hlt)⟩
            · rw [if_neg hi] at hx
              rw [if_neg (by rw [s4.1]; exact hi)]
              obtain ⟨z, z1, z2, z3⟩ := c5 i x hx
              exact ⟨z, by simpa using z1, z2, z3⟩)
          refine ⟨cx, w', .slice (some ⟨cx.bm id, off, none⟩) (len + n) cap, ?_, hw.1, hw.2, ?_⟩
          · rw [fits hfit]
            rw [hse] at r1
            simp only [add_at]
            rw [r1]; rfl
          · have hm := (ARel.msl (cx := cx) (S := S) (w := w) id g off len lim _ (cx.bm id) cap hn hl hcap h63 hp).mono hw.2
            cases hm with
            | msl _ _ _ _ _ _ _ _ m1 m2 m3 m63 m4 => exact .msl id g off (len + n) _ _ _ cap m1 (by omega) (by omega) m63 m4
        · rename_i hnfit
          split at h
          · rename_i hg
            obtain ⟨rfl, hg⟩ := hg
            simp only [Option.some.injEq, Prod.mk.injEq] at h
            obtain ⟨rfl, rfl⟩ := h
            simp only [Nat.zero_add] at *
            have hcurn : cur { S with H := S.H.set id (.cells (g + 1) (cs.take (len * szOf C.P e) ++ ys)) } id = some (g + 1) := by unfold cur; simp [AL.get_set]
            have hnm : Names { S with H := S.H.set id (.cells (g + 1) (cs.take (len * szOf C.P e) ++ ys)) } id (g + 1) := ⟨hn.1, fun g' hg => by rw [hcurn] at hg; simp at hg; omega⟩
            have hnl : (cs.take (len * szOf C.P e) ++ ys).length = (len + n) * szOf C.P e := by simp [s2, Nat.add_mul]; omega
            by_cases hfit : len + n ≤ cap
            · have hsize : (len + n) * szOf C.P e ≤ cap * szOf C.P e := Nat.mul_le_mul_right _ hfit
              have hsize' := hsize
              rw [Nat.add_mul] at hsize'
              obtain ⟨w', r1, r2, r3, r4, r5, r6, r7, r8⟩ := stor (by have := c4.1; omega)
              let cx' : Cx := { cx with tsz := fun i => if i = id then (len + n) * szOf C.P e else cx.tsz i }
              obtain ⟨k1, k2⟩ := blk_sound hR (cx' := cx') (w' := w') (g' := g + 1) (cs' := cs.take (len * szOf C.P e) ++ ys) hS hk (by omega) (by omega) r4 r5 r6 (fun b _ hb => r3 b hb) (fun _ _ => rfl) (fun _ _ _ => Iff.rfl) (fun i hi => by simp [cx', hi]) (fun _ _ => rfl)
                (fun b hb => .inl ((c1 b).1 hb)) (fun b o hf _ => hf) (fun b o hf => hf) (fun b o hf => by rw [r2]; exact hS.lt b o hf) (fun ext => by
                refine ⟨c1, c2, _, el, r8, ⟨by simp [setAt_length]; exact c4.1, by simp only [cx', if_true]; exact hnl, by simp only [List.size_toArray, setAt_length, Array.length_toList, hnl]; have := c4.1; omega⟩, fun i x hx => ?_⟩
                simp only [List.getElem?_toArray, Nat.add_zero]
                rw [setAt_get _ _ _ _ (by have := c4.1; simp; omega)]
                rw [List.getElem?_append] at hx
                have htl : (cs.take (len * szOf C.P e)).length = len * szOf C.P e := by simp; omega
                by_cases hi : i < (cs.take (len * szOf C.P e)).length
                · rw [if_pos hi, List.getElem?_take, if_pos (by omega)] at hx
                  rw [if_neg (by omega)]
                  obtain ⟨z, z1, z2, z3⟩ := c5 i x hx
                  exact ⟨z, by simpa using z1, z2.mono ext, z3⟩
                · rw [if_neg hi, htl] at hx
                  have hlt : i - len * szOf C.P e < fs.length := by rw [s4.1]; exact (List.getElem?_eq_some_iff.1 hx).1
                  rw [if_pos (by omega)]
                  have hu := List.getElem?_eq_getElem hlt
                  exact ⟨_, hu, (s4.2.2 _ x _ hx hu).mono ext, s4.2.1 _ (List.getElem_mem hlt)⟩)
              refine ⟨cx', w', .slice (some ⟨cx.bm id, 0, none⟩) (len + n) cap, ?_, k1, k2, .msl id (g + 1) 0 (len + n) (len + n) _ _ cap hnm (Nat.le_refl _) hfit h63 (fun _ => ⟨rfl, by simp only [cx', if_true, Nat.zero_add]; exact hsize, by simp only [Nat.zero_add]; exact p3⟩)⟩
              rw [fits hfit]
              rw [hse] at r1
              simp only [add_at, Nat.zero_add]
              rw [r1]; rfl
            · obtain ⟨ie', z, hi', hz0, hzs, hb2, hb0, hb1⟩ := growOk_some hg
              rw [hi] at hi'
              simp only [Option.some.injEq] at hi'; subst hi'
              have hold : (Builtin.firstCells ie.size len (.slice (some ⟨cx.bm id, 0, none⟩) len cap)).run C.P w.drew = .ok ((arr.toList.drop 0).take (len * szOf C.P e)).toArray w.drew := by
                rw [← hse]
                exact load_block (P := C.P) (w := w.drew) (b := cx.bm id) (o := 0) (n := len * szOf C.P e) (arr := arr) (el := el) (fz := (0, 0)) c3 (by have := c4.2.2; omega)
              obtain ⟨nc, n1, n63, n2⟩ := run_append_grows (w := w) (ty := ty) (sLen := len) (sCap := cap) (n := n) (base := some ⟨cx.bm id, 0, none⟩) (u := u) (elemSl_some he) hi h2 s1 (by omega) hb0 hb1 hb2 hz0 hold (by rw [← hse]; exact s3 _ rfl)
              have hpw : Pw (ARel cx S w) (cs.take (len * szOf C.P e) ++ ys) (arr.toList.take (len * szOf C.P e) ++ fs) := by
                have := cells_pw c4.2.2 c5 0 (len * szOf C.P e) (by omega)
                simp only [List.drop_zero] at this
                exact Pw.append this s4
              have harr : ((arr.toList.drop 0).take (len * szOf C.P e)).toArray ++ fs.toArray ++ Builtin.zeroCells z.cells (nc - (len + n)) = (arr.toList.take (len * szOf C.P e) ++ fs).toArray ++ Builtin.zeroCells z.cells (nc - (len + n)) := by simp
              rw [harr] at n2
              generalize hblk0 : (arr.toList.take (len * szOf C.P e) ++ fs).toArray ++ Builtin.zeroCells z.cells (nc - (len + n)) = A at n2
              have hAsz : A.size = nc * szOf C.P e := by
                rw [← hblk0]
                simp only [Array.size_append, List.size_toArray, hpw.1, hnl, zeroCells_size, hzs, ← hse]
                rw [← Nat.add_mul]; congr 1; omega
              let cx' : Cx := { bm := fun i => if i = id then w.heap.size else cx.bm i, fp := fun i b => if i = id then b = w.heap.size else cx.fp i b, tsz := fun i => if i = id then (len + n) * szOf C.P e else cx.tsz i,
                                tot := fun i => if i = id then nc * szOf C.P e else cx.tot i, fr := fun b o => b = w.heap.size ∨ cx.fr b o }
              have hblk : (w.drew.alloc (.cells A e)).heap[w.heap.size]? = some (.cells A e) := heap_alloc_new w.drew _
              have hsize : (len + n) * szOf C.P e ≤ nc * szOf C.P e := Nat.mul_le_mul_right _ n1
              obtain ⟨k1, k2⟩ := blk_sound hR (cx' := cx') (w' := w.drew.alloc (.cells A e)) (g' := g + 1) (cs' := cs.take (len * szOf C.P e) ++ ys) hS hk (by omega) (by rw [size_alloc]; show w.heap.size ≤ w.heap.size + 1; omega) rfl rfl rfl
                (fun b hb _ => heap_alloc_old w.drew _ hb) (fun i hi => by simp [cx', hi]) (fun i hi b => by simp [cx', hi]) (fun i hi => by simp [cx', hi]) (fun i hi => by simp [cx', hi])
                (fun b hb => .inr (by simp only [cx', if_true] at hb; subst hb; rw [size_alloc]; exact ⟨Nat.le_refl _, Nat.lt_succ_self _⟩))
                (fun b o hf hlt q => q.elim (fun q => absurd q (by omega)) (fun q => hf q)) (fun b o hf => .inr hf) (fun b o q => by rw [size_alloc]; exact q.elim (fun q => by rw [q]; exact Nat.lt_succ_self _) (fun q => Nat.lt_succ_of_lt (hS.lt b o q)))
                (fun ext => by
                refine ⟨fun b => by simp [cx'], fun o => by simp [cx'], A, e, by simp only [cx', if_true]; exact hblk, ⟨by simp only [cx', if_true]; exact hAsz, by simp only [cx', if_true]; exact hnl, by rw [hAsz, hnl]; exact hsize⟩, fun i x hx => ?_⟩
                have hlt : i < (arr.toList.take (len * szOf C.P e) ++ fs).length := by rw [hpw.1]; exact (List.getElem?_eq_some_iff.1 hx).1
                have hu := List.getElem?_eq_getElem hlt
                refine ⟨_, ?_, (hpw.2.2 i x _ hx hu).mono ext, hpw.2.1 _ (List.getElem_mem hlt)⟩
                rw [← hblk0, Array.getElem?_append_left (by simpa using hlt)]
                simp)
              exact ⟨cx', _, _, n2, k1, k2, .msl id (g + 1) 0 (len + n) (len + n) _ _ nc hnm (Nat.le_refl _) n1 n63 (fun _ => ⟨by simp [cx'], by simp only [cx', if_true, Nat.zero_add]; exact hsize, by simp only [cx', if_true, Nat.zero_add]; exact Nat.le_refl _⟩)⟩
          · cases h
    · cases h
  · cases h

theorem zeros_pw {cx : Cx} {S : St} {w : World} {z : D} {zv : Value} (hz : DRel w cx.fr z zv) (n : Nat) (h0 : 0 < z.cells.length) : Pw (ARel cx S w) ((List.replicate n z.cells).flatten.map .d) (Builtin.zeroCells zv.cells n).toList := by
  have hc := hz.1.cells
  have hsz : zv.cells.size = z.cells.length := by rw [← hc.1]; simp
  have hp : Pw (DRel w cx.fr) z.cells zv.cells.toList := ⟨hc.1, hc.2.1, hc.2.2⟩
  have := (Pw.flat hp n).toAV (cx := cx) (S := S)
  rw [← zeros_flat zv.cells n (by omega)] at this
  exact this

theorem clear_sound {R : ObjR} (hR : ObjOk R) {C : Cfg} {cx : Cx} {S : St} {w : World} (hS : SRel R cx S w) {t e ty : Nat} {x : AV} {v : Value} {nx : Nxt} (h : clearAV C e S x = some nx) (he : elemSl C.P t = some e) (hx : ARel cx S w x v) :
    ∃ S' cx' w', nx = .val (.tup []) S' ∧ (Builtin.clear_ #[t] ty #[v]).run C.P w = .ok (.tuple #[]) w' ∧ SRel R cx' S' w' ∧ Ext cx S w cx' S' w' := by
  have hu := elemSl_some he
  unfold clearAV at h
  split at h
  · simp only [Option.some.injEq] at h; subst h
    have := nilsI hx.dd; subst this
    exact ⟨S, cx, w, rfl, by simp [Builtin.clear_, run_und w hu], hS, Ext.refl w hS.wf⟩
  · simp only [Option.some.injEq] at h; subst h
    obtain ⟨a, cap, rfl, _⟩ := slI hx.dd
    exact ⟨S, cx, w, rfl, by cases a <;> simp [Builtin.clear_, run_und w hu], hS, Ext.refl w hS.wf⟩
  · rename_i id g off len lim sz
    cases hx with
    | msl _ _ _ _ _ _ b cap hn hl hcap h63 hp =>
    split at h
    · rename_i h0
      subst h0
      simp only [Option.some.injEq] at h; subst h
      exact ⟨S, cx, w, rfl, by simp [Builtin.clear_, run_und w hu], hS, Ext.refl w hS.wf⟩
    · rename_i h0
      split at h
      · rename_i cs z hlk hz
        split at h
        · rename_i hc
          obtain ⟨rfl, hpos, hle⟩ := hc
          simp only [Option.some.injEq] at h; subst h
          have hk := look_some hlk
          obtain ⟨p1, p2, p3⟩ := hp (by simp [cur, hk])
          subst p1
          obtain ⟨c1, c2, arr, el, c3, c4, c5⟩ := hS.cells id g cs hk
          obtain ⟨zv, z1, z2⟩ := zero_sound hz w cx.fr
          have s4 := zeros_pw (S := S) z2 len hpos
          have hyl : ((List.replicate len z.cells).flatten.map AV.d).length = len * z.cells.length := by
            rw [← s4.1]
            have hsz : zv.cells.size = z.cells.length := by rw [← z2.1.cells.1]; simp
            simp [Builtin.zeroCells, hsz]
          generalize (List.replicate len z.cells).flatten.map AV.d = ys at s4 hyl
          generalize hfs : (Builtin.zeroCells zv.cells len).toList = fs at s4
          obtain ⟨w', r1, r2, r3, r4, r5, r6, r7, r8⟩ := storeCells_at (P := C.P) fs w (cx.bm id) off 0 arr el (0, 0) c3 s4.2.1 (by have := c4.2.2; have := s4.1; omega) (.inl rfl)
          have hw := write_sound hR (w' := w') (cs' := setAt cs off ys) (arr' := (setAt arr.toList (off + 0) fs).toArray) (el := el) hS hk r2 r3 r4 r5 r6 r8 (by simp [setAt_length]) (by simp [setAt_length]; exact c4.1) (fun i x hx => by
            rw [setAt_get _ _ _ _ (by omega)] at hx
            simp only [List.getElem?_toArray, Nat.add_zero]
            rw [setAt_get _ _ _ _ (by have := c4.2.2; have := s4.1; simp; omega)]
            by_cases hi : off ≤ i ∧ i < off + ys.length
            · rw [if_pos hi] at hx
              rw [if_pos (by rw [s4.1]; exact hi)]
              have hlt : i - off < fs.length := by rw [s4.1]; omega
              have hu := List.getElem?_eq_getElem hlt
              exact ⟨_, hu, s4.2.2 _ x _ hx hu, s4.2.1 _ (List.getElem_mem hlt)⟩
            · rw [if_neg hi] at hx
              rw [if_neg (by rw [s4.1]; exact hi)]
              obtain ⟨z, z1, z2, z3⟩ := c5 i x hx
              exact ⟨z, by simpa using z1, z2, z3⟩)
          refine ⟨_, cx, w', rfl, ?_, hw.1, hw.2⟩
          obtain ⟨m, hm⟩ := Nat.exists_eq_succ_of_ne_zero h0
          subst hm
          simp only [Builtin.clear_, List.getElem?_toArray, List.getElem?_cons_zero, Sem.run_bind, run_und w hu, Result.andThen_ok, z1, hfs, r1, Sem.run_pure]
        · cases h
      · cases h
  · cases h

/-- Cells of a row are written over. -/
theorem over_sound {R : ObjR} (hR : ObjOk R) {P : Program} {cx : Cx} {S : St} {w : World} (hS : SRel R cx S w) {id g off : Nat} {cs ys : List AV} {fs : List Value} (hk : S.H.get id = some (.cells g cs)) (hle : off + ys.length ≤ cs.length) (s4 : Pw (ARel cx S w) ys fs) :
    ∃ w', (storeCells ⟨cx.bm id, off, none⟩ fs).run P w = .ok () w' ∧ SRel R cx { S with H := S.H.set id (.cells g (setAt cs off ys)) } w' ∧ Ext cx S w cx { S with H := S.H.set id (.cells g (setAt cs off ys)) } w' := by
  obtain ⟨c1, c2, arr, el, c3, c4, c5⟩ := hS.cells id g cs hk
  obtain ⟨w', r1, r2, r3, r4, r5, r6, r7, r8⟩ := storeCells_at (P := P) fs w (cx.bm id) off 0 arr el (0, 0) c3 s4.2.1 (by have := c4.2.2; have := s4.1; omega) (.inl rfl)
  have hw := write_sound hR (w' := w') (cs' := setAt cs off ys) (arr' := (setAt arr.toList (off + 0) fs).toArray) (el := el) hS hk r2 r3 r4 r5 r6 r8 (by simp [setAt_length]) (by simp [setAt_length]; exact c4.1) (fun i x hx => by
    rw [setAt_get _ _ _ _ (by omega)] at hx
    simp only [List.getElem?_toArray, Nat.add_zero]
    rw [setAt_get _ _ _ _ (by have := c4.2.2; have := s4.1; simp; omega)]
    by_cases hi : off ≤ i ∧ i < off + ys.length
    · rw [if_pos hi] at hx
      rw [if_pos (by rw [s4.1]; exact hi)]
      have hlt : i - off < fs.length := by rw [s4.1]; omega
      have hu := List.getElem?_eq_getElem hlt
      exact ⟨_, hu, s4.2.2 _ x _ hx hu, s4.2.1 _ (List.getElem_mem hlt)⟩
    · rw [if_neg hi] at hx
      rw [if_neg (by rw [s4.1]; exact hi)]
      obtain ⟨z, z1, z2, z3⟩ := c5 i x hx
      exact ⟨z, by simpa using z1, z2, z3⟩)
  exact ⟨w', r1, hw.1, hw.2⟩

theorem copy_sound {R : ObjR} (hR : ObjOk R) {C : Cfg} {cx : Cx} {S : St} {w : World} (hS : SRel R cx S w) {t t2 e ty : Nat} {x y : AV} {v u : Value} {nx : Nxt} (h : copyAV C e S x y = some nx) (he : elemSl C.P t = some e) (hx : ARel cx S w x v) (hy : ARel cx S w y u) :
    ∃ n S' cx' w', nx = .val (.d (.int .i64 (n : Nat))) S' ∧ (Builtin.copy_ #[t, t2] ty #[v, u]).run C.P w = .ok (.int .i64 (n : Nat)) w' ∧ SRel R cx' S' w' ∧ Ext cx S w cx' S' w' := by
  have hu := elemSl_some he
  unfold copyAV at h
  split at h
  · rename_i id g off len sz hrow
    split at h
    · rename_i cs hlk
      split at h
      · rename_i hc
        obtain ⟨rfl, hpos, hle⟩ := hc
        have hk := look_some hlk
        obtain ⟨ie, hi⟩ : ∃ i, C.P.info? e = some i := by
          unfold szOf at hpos
          split at hpos
          · exact ⟨_, by assumption⟩
          · omega
        have hse : szOf C.P e = ie.size := by simp [szOf, hi]
        have hs : (Go.sizeOf e).run C.P w = .ok ie.size w := by simp [Go.sizeOf, typeInfo, hi]
        obtain ⟨b, cap, rfl, hlcap, h63, hp⟩ := asRow_sound hrow hx
        have p1 := hp (by simp [cur, hk])
        subst p1
        split at h
        · rename_i id2 g2 off2 len2 sz2 hrow2
          split at h
          · rename_i cs2 hlk2
            split at h
            · rename_i hc2
              obtain ⟨rfl, hle2⟩ := hc2
              simp only [Option.some.injEq] at h; subst h
              have hk2 := look_some hlk2
              obtain ⟨b2, cap2, rfl, hl2cap, h632, hp2⟩ := asRow_sound hrow2 hy
              have p1' := hp2 (by simp [cur, hk2])
              subst p1'
              obtain ⟨c1, c2, arr, el, c3, c4, c5⟩ := hS.cells id2 g2 cs2 hk2
              have hmin : min len2 len * szOf C.P e ≤ len2 * szOf C.P e := Nat.mul_le_mul_right _ (Nat.min_le_left _ _)
              have hmin' : min len2 len * szOf C.P e ≤ len * szOf C.P e := Nat.mul_le_mul_right _ (Nat.min_le_right _ _)
              have s4 := cells_pw c4.2.2 c5 off2 (min len2 len * szOf C.P e) (by omega)
              have hld := load_block (P := C.P) (w := w) (o := off2) (n := min len2 len * szOf C.P e) c3 (by have := c4.2.2; omega)
              obtain ⟨w', r1, r2, r3⟩ := over_sound hR (P := C.P) (off := off) hS hk (by simp; omega) s4
              refine ⟨min len2 len, _, cx, w', rfl, ?_, r2, r3⟩
              have hf : (Builtin.firstCells ie.size (min len2 len) (.slice (some ⟨cx.bm id2, off2, none⟩) len2 cap2)).run C.P w = .ok ((arr.toList.drop off2).take (min len2 len * szOf C.P e)).toArray w := by rw [← hse]; exact hld
              have hln : (Builtin.lenOf (.slice (some ⟨cx.bm id2, off2, none⟩) len2 cap2)).run C.P w = .ok len2 w := rfl
              simp only [Builtin.copy_, List.getElem?_toArray, List.getElem?_cons_zero, List.getElem?_cons_succ, Sem.run_bind, run_und w hu, Result.andThen_ok, hln, hs, Nat.min_def] at hf ⊢
              simp only [Nat.min_def] at r1
              rw [hf]
              simp only [Result.andThen_ok, r1, Sem.run_pure, goInt]
            · cases h
          · cases h
        · split at h
          · rename_i ys n hsrc
            split at h
            · rename_i hnl
              simp only [Option.some.injEq] at h; subst h
              obtain ⟨s1, s2, fs, s3, s4⟩ := srcCells_sound (P := C.P) hS hsrc hy
              have hmul : n * szOf C.P e ≤ len * szOf C.P e := Nat.mul_le_mul_right _ hnl
              obtain ⟨w', r1, r2, r3⟩ := over_sound hR (P := C.P) (off := off) hS hk (by omega) s4
              refine ⟨n, _, cx, w', rfl, ?_, r2, r3⟩
              have hf : (Builtin.firstCells ie.size n u).run C.P w = .ok fs.toArray w := by rw [← hse]; exact s3 w rfl
              have hmin : Nat.min n len = n := Nat.min_eq_left hnl
              simp only [Builtin.copy_, List.getElem?_toArray, List.getElem?_cons_zero, List.getElem?_cons_succ, Sem.run_bind, run_und w hu, Result.andThen_ok, s1, hs, hmin, hf, r1, Sem.run_pure, goInt]
            · cases h
          · cases h
      · cases h
    · cases h
  · cases h

theorem make_sound {R : ObjR} (hR : ObjOk R) {C : Cfg} {cx : Cx} {S : St} {w : World} (hS : SRel R cx S w) {t : Nat} {l c : D} {r : AV × St} {lv cv : Value} (h : opMake C t S l c = some r) (hl : DRel w cx.fr l lv) (hc : DRel w cx.fr c cv) :
    ∃ cx' w' u, (Instr.makeSlice t lv cv).run C.P w = .ok u w' ∧ SRel R cx' r.2 w' ∧ Ext cx S w cx' r.2 w' ∧ ARel cx' r.2 w' r.1 u := by
  unfold opMake at h
  split at h
  · rename_i e k1 n1 k2 n2 he
    have a1 := hl.val rfl; cases a1
    have a2 := hc.val rfl; cases a2
    split at h
    · rename_i z hz
      split at h
      · rename_i hcond
        obtain ⟨c1, c2, c3, c4, c5, c6, c7, c8⟩ := hcond
        simp only [Option.some.injEq] at h; subst h
        obtain ⟨ie, hi⟩ : ∃ i, C.P.info? e = some i := by
          unfold szOf at c4
          split at c4
          · exact ⟨_, by assumption⟩
          · omega
        have hse : szOf C.P e = ie.size := by simp [szOf, hi]
        have hbe : bytesOf C.P e = ie.bytes := by simp [bytesOf, hi]
        obtain ⟨zv, z1, z2⟩ := zero_sound hz w cx.fr
        obtain ⟨zz, hzz⟩ : ∃ q, ie.zero = some q := by
          cases hq : ie.zero with
          | some q => exact ⟨q, rfl⟩
          | none => simp [zeroOf, hi, hq] at hz
        have hzv : zv = zz := by simpa [zeroValue, typeInfo, hi, hzz] using z1.symm
        subst hzv
        have hrun := run_makeSlice (P := C.P) w t e ie zv (elemSl_some he) hi hzz k1 k2 n1 n2 c1 c2 (by rw [← hse]; exact c5) (by rw [← hbe]; exact c6) (by omega)
        have s4 := zeros_pw (S := S) z2 n2.toNat (by omega)
        have hsz : zv.cells.size = szOf C.P e := by rw [← c3, ← z2.1.cells.1]; simp
        have hyl : ((List.replicate n2.toNat z.cells).flatten.map AV.d).length = n2.toNat * szOf C.P e := by
          rw [← s4.1]; simp [Builtin.zeroCells, hsz]
        obtain ⟨cx', k1', k2', k3'⟩ := newrow_sound hR hS _ _ #[] e n2.toNat (szOf C.P e) n2.toNat s4 hyl (Nat.le_refl _) (by omega) (by simp)
        have harr : (Builtin.zeroCells zv.cells n2.toNat).toList.toArray ++ #[] = madeCells zv.cells (n2.toNat * ie.size) := by
          rw [← hse, ← hsz]; apply Array.ext'; simp [Builtin.zeroCells, madeCells]
        rw [harr] at k1' k2' k3'
        refine ⟨cx', _, _, hrun, k1', k2', ?_⟩
        cases k3' with
        | msl _ _ _ _ _ _ b cap hn hll hcap h63 hp => exact .msl _ _ _ _ _ _ _ _ hn (by omega) hcap h63 hp
      · cases h
    · cases h
  · cases h

theorem buildRow_sound {R : ObjR} (hR : ObjOk R) {C : Cfg} {cx : Cx} {S : St} {w : World} (hS : SRel R cx S w) {ρ : Operand → Option AV} {σ : Operand → Value} (hρ : ρRel cx S w ρ σ) {t len : Nat} {parts : Array (Nat × Operand)}
    {ps : List (Nat × AV)} {nx : Nxt} (hps : evals ρ parts = some ps) (h : opBuildRow C t S len ps = some nx) :
    ∃ v S', nx = .val v S' ∧ ∃ cx' u w', (Instr.buildSlice t len (parts.map fun (i, x) => (i, σ x))).run C.P w = .ok u w' ∧ SRel R cx' S' w' ∧ Ext cx S w cx' S' w' ∧ ARel cx' S' w' v u := by
  obtain ⟨e1, e2⟩ := evals_sound hρ hps
  unfold opBuildRow at h
  split at h
  · rename_i e he
    split at h
    · rename_i z hz
      split at h
      · rename_i hc
        obtain ⟨c1, c2, c3, c4⟩ := hc
        cases hhas : S.H.has S.nx with
        | true => simp [hhas] at h
        | false =>
        simp only [hhas, cond_false, Option.map_eq_some_iff] at h
        obtain ⟨cs, hf, rfl⟩ := h
        have hu := elemSl_some he
        obtain ⟨ag, hag⟩ := Option.isSome_iff_exists.1 c4
        obtain ⟨d, hd⟩ := aggO_under hag
        obtain ⟨ie, hie⟩ := underlying_info hd
        have hse : szOf C.P e = ie.size := by simp [szOf, hie]
        obtain ⟨zv, r1, r2⟩ := zero_sound hz w cx.fr
        have hpw := r2.cellsPw
        have hsz : zv.cells.size = ie.size := by rw [← hse, ← c1, ← hpw.1]; simp
        have hP : Pw (ARel cx S w) ((List.replicate len z.cells).flatten.map AV.d) ((Array.range (len * ie.size)).map (zv.cells[· % zv.cells.size]!)).toList := by
          rw [← hsz, zeros_flat _ _ (by rw [hsz, ← hse]; exact Nat.pos_of_ne_zero (fun q => by rw [q, Nat.mul_zero] at c2; omega))]
          exact (hpw.flat len).toAV
        obtain ⟨arr', f1, f2⟩ := fill_sound (Rl := ARel cx S w) ps (parts.map fun (i, x) => (i, σ x)).toList _ cs _ hf e1 (fun i p u hp hu => ⟨(e2 i p u hp hu).1, fun ds hds => by
          unfold cellsP at hds
          cases hpn : p.2.plain with
          | true => rw [hpn] at hds; simp at hds; subst hds; exact plainAV_cells (e2 i p u hp hu).2 hpn
          | false => rw [hpn] at hds; simp at hds⟩) hP
        have hcl : cs.length = len * szOf C.P e := by
          rw [fillD_length _ _ _ hf, List.length_map, ← c1]
          simp
        have h3 : len ≤ len * szOf C.P e := Nat.le_mul_of_pos_right _ (Nat.pos_of_ne_zero (fun q => by rw [q, Nat.mul_zero] at c2; omega))
        obtain ⟨cx', k1, k2, k3⟩ := newrow_sound hR hS cs arr'.toList #[] e len (szOf C.P e) len f2 hcl (Nat.le_refl _) (by omega) (by simp)
        refine ⟨_, _, rfl, cx', .slice (some ⟨w.heap.size, 0, none⟩) len len, w.alloc (.cells arr' e), ?_, ?_, ?_, ?_⟩
        · have hsm' : ¬ len * ie.size > 2 ^ 24 := by rw [← hse]; have : (2 : Nat) ^ 24 = 16777216 := by decide
                                                     omega
          rw [hse] at f1
          simp only [Instr.buildSlice, Sem.run_bind, run_und w hu, Result.andThen_ok, run_sizeOf' w hd, hse]
          rw [if_neg hsm', if_neg (by rw [← hse]; omega)]
          simp only [Sem.run_bind, Sem.run_pure, Result.andThen_ok, r1]
          rw [f1]
          simp only [newRow, Sem.run_bind, Sem.run_pure, run_newObj, Result.andThen_ok]
          rfl
        · simpa using k1
        · simpa using k2
        · simpa using k3
      · cases h
    · cases h
  · cases h

end
end Go.Ev


namespace Go.Ev
noncomputable section
set_option linter.unusedVariables false
set_option linter.unusedSimpArgs false

theorem strI {w : World} {fr : Nat → Nat → Prop} {s : List UInt8} {v : Value} (h : DRel w fr (.str s) v) : ∃ b : ByteArray, v = .string b ∧ b.data.toList = s := by
  have := h.val rfl; cases this; exact ⟨_, rfl, rfl⟩

theorem bytes_ext {a b : ByteArray} (h : a.data.toList = b.data.toList) : a = b := by
  cases a; cases b
  simp only at h
  congr 1
  exact Array.toList_inj.1 h

theorem simple_eq {w : World} {fr : Nat → Nat → Prop} {k : D} {v u : Value} (hs : simpleD k = true) (h1 : DRel w fr k v) (h2 : DRel w fr k u) : v = u := by
  cases k <;> simp only [simpleD, Bool.false_eq_true] at hs
  · have a := h1.val rfl; have b := h2.val rfl; cases a; cases b; rfl
  · have a := h1.val rfl; have b := h2.val rfl; cases a; cases b; rfl
  · obtain ⟨a, rfl, ha⟩ := strI h1
    obtain ⟨b, rfl, hb⟩ := strI h2
    rw [bytes_ext (ha.trans hb.symm)]

theorem simple_bits {w : World} {fr : Nat → Nat → Prop} {k : D} {v : Value} (hs : simpleD k = true) (h : DRel w fr k v) (n : Nat) : Instr.sameBits n v v = true := by
  cases k <;> simp only [simpleD, Bool.false_eq_true] at hs
  · have a := h.val rfl; cases a; cases n <;> simp [Instr.sameBits]
  · have a := h.val rfl; cases a; cases n <;> simp [Instr.sameBits]
  · obtain ⟨a, rfl, ha⟩ := strI h
    cases n <;> simp [Instr.sameBits, bytes_eq]

/-- The two kinds of keys. -/
theorem keyOk_cases {P : Program} {t : Nat} {k : D} (h : keyOk P t k = true) : (simpleD k = true ∧ simpleT P t = true) ∨
    ∃ xs fs, k = .agg xs ∧ P.underlying t = some (.struct fs) ∧ (∀ x ∈ xs, simpleD x = true) ∧ ∀ f ∈ fs.toList, f.name ≠ "_" ∧ simpleT P f.type = true ∧ (partD P f.type xs f.offset).isSome = true := by
  cases k
  case agg xs =>
    right
    simp only [keyOk] at h
    split at h
    · rename_i fs hu
      simp only [Bool.and_eq_true, List.all_eq_true] at h
      refine ⟨xs, fs, rfl, hu, h.1, fun f hf => ?_⟩
      have := Array.all_eq_true_iff_forall_mem.1 h.2 f (by simpa using hf)
      simp only [Bool.and_eq_true, bne_iff_ne, ne_eq] at this
      exact ⟨this.1.1, this.1.2, this.2⟩
    · cases h
  all_goals
    left
    simp only [keyOk, Bool.and_eq_true] at h
    exact h

theorem key_eq {P : Program} {w : World} {fr : Nat → Nat → Prop} {t : Nat} {k : D} {v u : Value} (hk : keyOk P t k = true) (h1 : DRel w fr k v) (h2 : DRel w fr k u) : v = u := by
  rcases keyOk_cases hk with ⟨hs, _⟩ | ⟨xs, fs, rfl, _, hs, _⟩
  · exact simple_eq hs h1 h2
  · obtain ⟨vs, rfl, l1, _, c1⟩ := h1.aggI
    obtain ⟨us, rfl, l2, _, c2⟩ := h2.aggI
    congr 2
    apply List.ext_getElem (by omega)
    intro i q1 q2
    have hx := List.getElem?_eq_getElem (l := xs) (i := i) (by omega)
    exact simple_eq (hs _ (List.getElem_mem _)) (c1 i _ _ hx (List.getElem?_eq_getElem q1)) (c2 i _ _ hx (List.getElem?_eq_getElem q2))

theorem key_bits {P : Program} {w : World} {fr : Nat → Nat → Prop} {t : Nat} {k : D} {v : Value} (hk : keyOk P t k = true) (h1 : DRel w fr k v) (n : Nat) : Instr.sameBits (n + 1) v v = true := by
  rcases keyOk_cases hk with ⟨hs, _⟩ | ⟨xs, fs, rfl, _, hs, _⟩
  · exact simple_bits hs h1 _
  · obtain ⟨vs, rfl, l1, _, c1⟩ := h1.aggI
    simp only [Instr.sameBits, beq_self_eq_true, Bool.true_and, List.all_eq_true]
    intro p hp
    obtain ⟨i, hi⟩ := List.mem_iff_getElem?.1 hp
    simp only [List.getElem?_zip_eq_some] at hi
    obtain ⟨a, b⟩ := p
    simp only at hi ⊢
    have hab : a = b := by have := hi.1.symm.trans hi.2; simpa using this
    subst hab
    have hlt : i < vs.length := (List.getElem?_eq_some_iff.1 hi.1).1
    have hx := List.getElem?_eq_getElem (l := xs) (i := i) (by omega)
    exact simple_bits (hs _ (List.getElem_mem _)) (c1 i _ _ hx hi.1) _

theorem simpleT_cases {P : Program} {t : Nat} (h : simpleT P t = true) : P.underlying t = some .bool ∨ (∃ k, P.underlying t = some (.int k)) ∨ P.underlying t = some .string := by
  unfold simpleT at h
  split at h
  · exact .inl (by assumption)
  · exact .inr (.inl ⟨_, by assumption⟩)
  · exact .inr (.inr (by assumption))
  · cases h

theorem check_simple {P : Program} {w : World} {t : Nat} (h : simpleT P t = true) (b : Bool) (n : Nat) (v : Value) : (Instr.checkKey b (n + 1) t v).run P w = .ok () w := by
  rcases simpleT_cases h with hu | ⟨k, hu⟩ | hu <;> simp [Instr.checkKey, run_und w hu]

theorem check_key {P : Program} {w : World} {fr : Nat → Nat → Prop} {t : Nat} {k : D} {v : Value} (hk : keyOk P t k = true) (h1 : DRel w fr k v) (b : Bool) : (Instr.checkKey b 10000 t v).run P w = .ok () w := by
  rcases keyOk_cases hk with ⟨hs, ht⟩ | ⟨xs, fs, rfl, hu, hs, hf⟩
  · exact check_simple ht b 9999 v
  · obtain ⟨vs, rfl, l1, o1, c1⟩ := h1.aggI
    unfold Instr.checkKey
    simp only [Sem.run_bind, run_und w hu, Result.andThen_ok]
    rw [← Array.forIn_toList]
    generalize fs.toList = l at hf
    induction l with
    | nil => simp
    | cons f l ih =>
      obtain ⟨h2, h3, h4⟩ := hf f (by simp)
      obtain ⟨r, hr⟩ := Option.isSome_iff_exists.1 h4
      obtain ⟨u, e1, _⟩ := partD_sound (w := w) (fr := fr) hr vs l1 o1 c1
      simp only [List.forIn_cons, ne_eq, h2, not_false_eq_true, if_true, Sem.run_bind, e1, Result.andThen_ok, check_simple h3, Sem.run_pure]
      exact ih (fun f hf' => hf f (by simp [hf']))

/-- Entries and what lies in the map. -/
def EsR (w : World) (fr : Nat → Nat → Prop) (es : List (D × AV × Nat)) (ms : List MapEntry) : Prop :=
  ms.length = es.length ∧ ∀ (i : Nat) (p : D × AV × Nat) (m : MapEntry), es[i]? = some p → ms[i]? = some m → DRel w fr p.1 m.key

theorem EsR.tail {w : World} {fr : Nat → Nat → Prop} {p : D × AV × Nat} {es : List (D × AV × Nat)} {m : MapEntry} {ms : List MapEntry} (h : EsR w fr (p :: es) (m :: ms)) : EsR w fr es ms :=
  ⟨by have := h.1; simpa using this, fun i q r hq hr => h.2 (i + 1) q r (by simpa using hq) (by simpa using hr)⟩

/-- What the search gives. -/
def Found (ms : List MapEntry) (i0 : Nat) : Option (Nat × AV) → Option (Nat × Value) → Prop
  | none, r => r = none
  | some (i, _), r => ∃ m, i0 ≤ i ∧ ms[i - i0]? = some m ∧ r = some (i, m.val)

theorem findK_spec {P : Program} {t : Nat} {k : D} : ∀ {es : List (D × AV × Nat)} {i0 : Nat} {i : Nat} {v : AV}, findK P t k es i0 = some (some (i, v)) → ∃ b, i0 ≤ i ∧ es[i - i0]? = some (k, v, b)
  | [], i0, i, v, h => by simp [findK] at h
  | (x, u, b) :: l, i0, i, v, h => by
    simp only [findK] at h
    split at h
    · split at h
      · rename_i hs
        simp only [Option.some.injEq, Prod.mk.injEq] at h
        obtain ⟨rfl, rfl⟩ := h
        have := D.same_eq _ _ hs
        subst this
        exact ⟨b, Nat.le_refl _, by simp⟩
      · cases h
    · obtain ⟨b', h1, h2⟩ := findK_spec h
      refine ⟨b', by omega, ?_⟩
      rw [show i - i0 = (i - (i0 + 1)) + 1 by omega]
      simpa using h2
    · cases h

theorem asking_sound {P : Program} {w : World} {fr : Nat → Nat → Prop} {t : Nat} {k : D} {kv : Value} (hk : DRel w fr k kv) : ∀ {es : List (D × AV × Nat)} {ms : List MapEntry} {i0 : Nat} {r : Option (Nat × AV)}, EsR w fr es ms → findK P t k es i0 = some r →
    ∃ o, (Instr.findAsking t kv ms i0).run P w = .ok o w ∧ Found ms i0 r o
  | [], ms, i0, r, hE, h => by
    have : ms = [] := List.eq_nil_of_length_eq_zero (by rw [hE.1]; rfl)
    subst this
    simp only [findK, Option.some.injEq] at h; subst h
    exact ⟨none, by simp [Instr.findAsking], rfl⟩
  | (x, v, b) :: es, ms, i0, r, hE, h => by
    match ms, hE with
    | m :: ms, hE =>
      have hx := hE.2 0 _ m rfl rfl
      simp only [findK] at h
      split at h
      · rename_i he
        split at h
        · simp only [Option.some.injEq] at h; subst h
          have := eqvT_sound 20 t k x true kv m.key he hk hx 10000 (by omega)
          refine ⟨some (i0, m.val), ?_, m, Nat.le_refl _, by simp, rfl⟩
          have hq : (Op.equal t kv m.key).run P w = .ok true w := this
          simp [Instr.findAsking, hq]
        · cases h
      · rename_i he
        have := eqvT_sound 20 t k x false kv m.key he hk hx 10000 (by omega)
        have hq : (Op.equal t kv m.key).run P w = .ok false w := this
        obtain ⟨o, h1, h2⟩ := asking_sound hk hE.tail h
        refine ⟨o, by simp [Instr.findAsking, hq, h1], ?_⟩
        cases r with
        | none => exact h2
        | some p =>
          obtain ⟨i, v'⟩ := p
          obtain ⟨m', q1, q2, q3⟩ := h2
          refine ⟨m', by omega, ?_, q3⟩
          rw [show i - i0 = (i - (i0 + 1)) + 1 by omega]
          simpa using q2
      · cases h

theorem sameNow_sound {P : Program} {w : World} {fr : Nat → Nat → Prop} {t : Nat} {k x : D} {kv xv : Value} {d : TypeDesc} {b : Bool} (ht : P.underlying t = some d) (hs : simpleT P t = true) (he : eqvT P 20 t k x = some b) (hk : DRel w fr k kv) (hx : DRel w fr x xv) :
    Instr.sameNow d kv xv = some b := by
  rcases simpleT_cases hs with hu | ⟨kk, hu⟩ | hu <;> rw [ht] at hu <;> simp only [Option.some.injEq] at hu <;> subst hu
  · unfold eqvT at he
    rw [ht] at he
    split at he <;> first | (rename_i q; cases q; done) | skip
    · have h1 := hk.val rfl; have h2 := hx.val rfl; cases h1; cases h2
      simpa [Instr.sameNow] using he
    · cases he
  · unfold eqvT at he
    rw [ht] at he
    split at he <;> first | (rename_i q; cases q; done) | skip
    · have h1 := hk.val rfl; have h2 := hx.val rfl; cases h1; cases h2
      simpa [Instr.sameNow] using he
    · cases he
  · unfold eqvT at he
    rw [ht] at he
    split at he <;> first | (rename_i q; cases q; done) | skip
    · obtain ⟨a, rfl, rfl⟩ := strI hk
      obtain ⟨c, rfl, rfl⟩ := strI hx
      simpa [Instr.sameNow, bytes_eq] using he
    · cases he

theorem now_sound {P : Program} {w : World} {fr : Nat → Nat → Prop} {t : Nat} {k : D} {kv : Value} {d : TypeDesc} (ht : P.underlying t = some d) (hs : simpleT P t = true) (hk : DRel w fr k kv) : ∀ {es : List (D × AV × Nat)} {ms : List MapEntry} {i0 : Nat} {r : Option (Nat × AV)}, EsR w fr es ms → findK P t k es i0 = some r →
    ∃ o, Instr.findNow d kv ms i0 = some o ∧ Found ms i0 r o
  | [], ms, i0, r, hE, h => by
    have : ms = [] := List.eq_nil_of_length_eq_zero (by rw [hE.1]; rfl)
    subst this
    simp only [findK, Option.some.injEq] at h; subst h
    exact ⟨none, by simp [Instr.findNow], rfl⟩
  | (x, v, b) :: es, ms, i0, r, hE, h => by
    match ms, hE with
    | m :: ms, hE =>
      have hx := hE.2 0 _ m rfl rfl
      simp only [findK] at h
      split at h
      · rename_i he
        split at h
        · simp only [Option.some.injEq] at h; subst h
          exact ⟨some (i0, m.val), by simp only [Instr.findNow, sameNow_sound ht hs he hk hx], m, Nat.le_refl _, by simp, rfl⟩
        · cases h
      · rename_i he
        obtain ⟨o, h1, h2⟩ := now_sound ht hs hk hE.tail h
        refine ⟨o, by simp only [Instr.findNow, sameNow_sound ht hs he hk hx, h1], ?_⟩
        cases r with
        | none => exact h2
        | some p =>
          obtain ⟨i, v'⟩ := p
          obtain ⟨m', q1, q2, q3⟩ := h2
          refine ⟨m', by omega, ?_, q3⟩
          rw [show i - i0 = (i - (i0 + 1)) + 1 by omega]
          simpa using q2
      · cases h

/-- The search for a key. -/
theorem findKey_sound {P : Program} {w : World} {fr : Nat → Nat → Prop} {t : Nat} {k : D} {kv : Value} (hok : keyOk P t k = true) (hk : DRel w fr k kv) {es : List (D × AV × Nat)} {ms : List MapEntry} {r : Option (Nat × AV)} (hE : EsR w fr es ms) (h : findK P t k es 0 = some r) :
    ∃ o, (Instr.findKey t kv ms).run P w = .ok o w ∧ Found ms 0 r o := by
  rcases keyOk_cases hok with ⟨hs, ht⟩ | ⟨xs, fs, rfl, hu, hs, hf⟩
  · obtain ⟨d, hd⟩ : ∃ d, P.underlying t = some d := by
      rcases simpleT_cases ht with hu | ⟨kk, hu⟩ | hu <;> exact ⟨_, hu⟩
    obtain ⟨o, h1, h2⟩ := now_sound hd ht hk hE h
    exact ⟨o, by simp only [Instr.findKey, Sem.run_bind, run_und w hd, Result.andThen_ok, h1, Sem.run_pure], h2⟩
  · cases ms with
    | nil =>
      have : es = [] := List.eq_nil_of_length_eq_zero (by rw [← hE.1]; rfl)
      subst this
      simp only [findK, Option.some.injEq] at h; subst h
      exact ⟨none, by simp [Instr.findKey, run_und w hu, Instr.findNow], rfl⟩
    | cons m ms =>
      obtain ⟨o, h1, h2⟩ := asking_sound (P := P) (t := t) hk hE h
      refine ⟨o, ?_, h2⟩
      obtain ⟨vs, rfl, _⟩ := hk.aggI
      simp only [Instr.findKey, Sem.run_bind, run_und w hu, Result.andThen_ok, Instr.findNow, Instr.sameNow, h1]

end
end Go.Ev


namespace Go.Ev
noncomputable section
set_option linter.unusedVariables false
set_option linter.unusedSimpArgs false

/-- A map's block is written anew. -/
theorem mwrite_sound {R : ObjR} (hR : ObjOk R) {cx : Cx} {S : St} {w w' : World} (h : SRel R cx S w) {id : Nat} {M M' : MapD} (hg : S.H.get id = some (.map M))
    (hs : w'.heap.size = w.heap.size) (ho : ∀ b, b ≠ cx.bm id → w'.heap[b]? = w.heap[b]?) (h1 : w'.os = w.os) (h2 : w'.tape = w.tape) (h3 : w'.output = w.output)
    {ms' : Array MapEntry} {clk' : Nat} (hb : w'.heap[cx.bm id]? = some (.map ms' clk')) (hd : ms'.size = M'.es.length ∧ clk' = M'.clk ∧ ∀ (i : Nat) (p : D × AV × Nat) (m : MapEntry), M'.es[i]? = some p → ms'[i]? = some m → m.born = p.2.2)
    (hv : ∀ (i : Nat) (p : D × AV × Nat) (m : MapEntry), M'.es[i]? = some p → ms'[i]? = some m → DRel w cx.fr p.1 m.key ∧ ARel cx S w p.2.1 m.val) :
    SRel R cx { S with H := S.H.set id (.map M') } w' ∧ Ext cx S w cx { S with H := S.H.set id (.map M') } w' := by
  obtain ⟨c1, c2, ms0, clk0, c3, c4, c5⟩ := h.maps id M hg
  have hlive : live S id := by simp [live, cur, hg]
  have hcur : ∀ i, cur { S with H := S.H.set id (.map M') } i = cur S i := fun i => by
    unfold cur
    simp only [AL.get_set]
    by_cases hi : id = i
    · subst hi; simp [hg]
    · simp [hi]
  have e : Ext cx S w cx { S with H := S.H.set id (.map M') } w' := by
    refine ⟨by omega, h1, h2, h3, Nat.le_refl _, fun b o v hf hc => ?_, fun b hlt hn => ?_, fun i b hl hf => ?_, fun i gi _ hi => ⟨gi, by
      unfold isIt at *
      simp only [AL.get_set] at hi
      split at hi
      · cases hi
      · exact hi⟩, fun _ _ _ _ _ _ hf => hf, fun i g' hi hg' => ?_⟩
    · have hne : b ≠ cx.bm id := fun q => hf (by rw [q]; exact c2 o)
      exact ⟨cell_old (ho b hne) hc, hf⟩
    · have hne : b ≠ cx.bm id := fun q => notIt hg (by simp) (hn id hlive ((c1 b).2 q))
      exact ⟨ho b hne, fun _ => Iff.rfl⟩
    · have hl' : live S i := by unfold live at *; rwa [hcur i] at hl
      exact ⟨fun _ => ⟨hl', .inl hf⟩, fun hge => absurd (h.wf i hl') (by show ¬ i < S.nx; omega)⟩
    · rw [hcur i] at hg'
      exact ⟨g', hg', Nat.le_refl _, fun _ => ⟨rfl, rfl, rfl⟩⟩
  have hl' : ∀ i, live { S with H := S.H.set id (.map M') } i → live S i := fun i hl => by unfold live at *; rwa [hcur i] at hl
  have hne : ∀ i, live S i → i ≠ id → ∀ b, cx.fp i b → b ≠ cx.bm id := fun i hi hne b hf hq => hne (h.sep i id b hi hlive hf ((c1 b).2 hq))
  refine ⟨⟨fun i hi => h.wf i (hl' i hi), fun i b hi => ?_, fun i g' cs1 hi => ?_, fun i es hi => ?_, fun i k x hi => ?_, fun i en hi => ?_, fun i i' b a1 a2 f1 f2 => h.sep i i' b (hl' i a1) (hl' i' a2) f1 f2, fun b o hf => by rw [hs]; exact h.lt b o hf, hR.stat _ _ _ _ h.stat e.prot⟩, e⟩
  · simp only [AL.get_set] at hi
    by_cases q : id = i
    · subst q; exact h.dis id _ hg
    · rw [if_neg q] at hi; exact h.dis i b hi
  · simp only [AL.get_set] at hi
    by_cases q : id = i
    · subst q; simp at hi
    · rw [if_neg q] at hi
      obtain ⟨d1, d2, arr2, el2, d3, d4, d5⟩ := h.cells i g' cs1 hi
      refine ⟨d1, d2, arr2, el2, ?_, d4, fun j x hx => by
        obtain ⟨v, v1, v2, v3⟩ := d5 j x hx
        exact ⟨v, v1, v2.mono e, v3⟩⟩
      rw [ho _ (hne i (by simp [live, cur, hi]) (Ne.symm q) _ ((d1 _).2 rfl))]; exact d3
  · simp only [AL.get_set] at hi
    by_cases q : id = i
    · subst q
      simp only [if_true, Option.some.injEq, Blk.map.injEq] at hi
      subst hi
      exact ⟨c1, c2, ms', clk', hb, hd, fun j p m hp hm => by
        obtain ⟨v1, v2⟩ := hv j p m hp hm
        exact ⟨v1.mono e.prot, v2.mono e⟩⟩
    · rw [if_neg q] at hi
      obtain ⟨d1, d2, ms, clk, d3, d4, d5⟩ := h.maps i es hi
      refine ⟨d1, d2, ms, clk, ?_, d4, fun j p m hp hm => by
        obtain ⟨v1, v2⟩ := d5 j p m hp hm
        exact ⟨v1.mono e.prot, v2.mono e⟩⟩
      rw [ho _ (hne i (by simp [live, cur, hi]) (Ne.symm q) _ ((d1 _).2 rfl))]; exact d3
  · simp only [AL.get_set] at hi
    by_cases q : id = i
    · subst q; simp at hi
    · rw [if_neg q] at hi
      obtain ⟨d1, d2⟩ := h.objs i k x hi
      exact ⟨hR.frame k x w w' _ _ d1 (fun c hc => ho c (hne i (by simp [live, cur, hi]) (Ne.symm q) c hc)), d2⟩
  · obtain ⟨d1, d2, arr2, el2, fz, d3, d4, d5, d6⟩ := h.toks i en hi
    have q : i ≠ id := fun q => by subst q; have := h.dis i _ hg; rw [this] at hi; cases hi
    have hli : live S i := by
      unfold live cur
      cases hH : S.H.get i with
      | some b => have := h.dis i b hH; rw [this] at hi; cases hi
      | none => simp [hi]
    refine ⟨d1, d2, arr2, el2, fz, ?_, d4, d5, d6⟩
    rw [ho _ (hne i hli q _ ((d1 _).2 rfl))]; exact d3

/-- A new map. -/
theorem newmap_sound {R : ObjR} (hR : ObjOk R) {cx : Cx} {S : St} {w : World} (h : SRel R cx S w) :
    ∃ cx', SRel R cx' { S with H := S.H.set S.nx (.map { es := [], clk := 0 }), nx := S.nx + 1 } (w.alloc (.map #[] 0)) ∧ Ext cx S w cx' { S with H := S.H.set S.nx (.map { es := [], clk := 0 }), nx := S.nx + 1 } (w.alloc (.map #[] 0)) ∧
      ARel cx' { S with H := S.H.set S.nx (.map { es := [], clk := 0 }), nx := S.nx + 1 } (w.alloc (.map #[] 0)) (.map S.nx) (.map (some w.heap.size)) := by
  obtain ⟨nH, nT⟩ := not_live_nx h
  generalize hS' : ({ S with H := S.H.set S.nx (.map { es := [], clk := 0 }), nx := S.nx + 1 } : St) = S'
  have hH : ∀ id, id ≠ S.nx → S'.H.get id = S.H.get id := fun id hid => by rw [← hS']; simp [AL.get_set, Ne.symm hid]
  have hT : ∀ id, id ≠ S.nx → S'.T.get id = S.T.get id := fun id hid => by rw [← hS']
  have hnx : S'.nx = S.nx + 1 := by rw [← hS']
  have nT' : S'.T.get S.nx = none := by rw [← hS']; exact nT
  have hc : ∀ id, id ≠ S.nx → cur S' id = cur S id := fun id hid => by unfold cur; rw [hH id hid, hT id hid]
  have hnew : S'.H.get S.nx = some (.map { es := [], clk := 0 }) := by rw [← hS']; simp [AL.get_set]
  have e := Ext.fresh (S' := S') h (.map #[] 0) 0 0 (fun _ => True) hnx hc hH
  refine ⟨cx.new S.nx w.heap.size 0 0 (fun _ => True), SRel.fresh hR h _ 0 0 _ hnx hH hT (fun b _ => nT') (fun g cs' hg => ?_) (fun es hg => ?_) (fun k x hg => ?_) (fun en hg => ?_), e, ?_⟩
  · rw [hnew] at hg; cases hg
  · rw [hnew] at hg
    simp only [Option.some.injEq, Blk.map.injEq] at hg
    subst hg
    exact ⟨fun c => by simp [Cx.new], fun o => by simp [Cx.new], #[], 0, by simp only [Cx.new, if_true]; exact heap_alloc_new w _, ⟨rfl, rfl, fun i p m hp => by simp at hp⟩, fun i p m hp => by simp at hp⟩
  · rw [hnew] at hg; cases hg
  · rw [nT'] at hg; cases hg
  · exact .map S.nx w.heap.size ⟨by rw [hnx]; exact Nat.lt_succ_self _, fun g' _ => Nat.zero_le _⟩ (fun _ => by simp [Cx.new])

theorem keyT_some {C : Cfg} {t k e : Nat} (h : keyT C t = some (k, e)) : C.P.underlying t = some (.map k e) := by
  unfold keyT at h
  split at h
  · rename_i k' e' hu
    simp only [Option.some.injEq, Prod.mk.injEq] at h
    rw [hu, h.1, h.2]
  · cases h

theorem map_esr {R : ObjR} {cx : Cx} {S : St} {w : World} (hS : SRel R cx S w) {id : Nat} {M : MapD} (hg : S.H.get id = some (.map M)) {b : Nat} (hx : ARel cx S w (.map id) (.map (some b))) :
    b = cx.bm id ∧ ∃ ms, w.heap[cx.bm id]? = some (.map ms M.clk) ∧ EsR w cx.fr M.es ms.toList ∧ (∀ (i : Nat) (p : D × AV × Nat) (m : MapEntry), M.es[i]? = some p → ms[i]? = some m → m.born = p.2.2 ∧ DRel w cx.fr p.1 m.key ∧ ARel cx S w p.2.1 m.val) ∧ ms.size = M.es.length := by
  obtain ⟨c1, c2, ms, clk, c3, ⟨c4, c4', c4''⟩, c5⟩ := hS.maps id M hg
  subst c4'
  cases hx with
  | map _ _ hn hp =>
    refine ⟨hp (by simp [cur, hg]), ms, c3, ⟨by simpa using c4, fun i p m hp hm => (c5 i p m hp (by simpa using hm)).1⟩, fun i p m hp hm => ⟨c4'' i p m hp hm, (c5 i p m hp hm).1, (c5 i p m hp hm).2⟩, c4⟩

/-- What the search found is what the evaluation found. -/
theorem found_val {cx : Cx} {S : St} {w : World} {P : Program} {t : Nat} {k : D} {es : List (D × AV × Nat)} {ms : Array MapEntry} (hval : ∀ (i : Nat) (p : D × AV × Nat) (m : MapEntry), es[i]? = some p → ms[i]? = some m → ARel cx S w p.2.1 m.val) {i : Nat} {v : AV} {o : Option (Nat × Value)}
    (hf : findK P t k es 0 = some (some (i, v))) (ho : Found ms.toList 0 (some (i, v)) o) : ∃ b m, es[i]? = some (k, v, b) ∧ ms[i]? = some m ∧ o = some (i, m.val) ∧ ARel cx S w v m.val := by
  obtain ⟨b, _, h2⟩ := findK_spec hf
  obtain ⟨m, _, m2, m3⟩ := ho
  rw [Nat.sub_zero] at h2 m2
  have m2' : ms[i]? = some m := by simpa using m2
  exact ⟨b, m, h2, m2', m3, hval i _ m h2 m2'⟩

theorem lookup_sound {R : ObjR} {C : Cfg} {cx : Cx} {S : St} {w : World} (hS : SRel R cx S w) {t : Nat} {m v : AV} {k : D} {ok : Bool} {mv kv : Value} (h : opLookup C t S m k ok = some v) (hm : ARel cx S w m mv) (hk : DRel w cx.fr k kv) :
    ∃ u, (Instr.lookup t mv kv ok).run C.P w = .ok u w ∧ ARel cx S w v u := by
  unfold opLookup at h
  split at h
  · rename_i kt et M hkt hM
    have hu := keyT_some hkt
    split at h
    · rename_i hkey
      have hchk := check_key hkey hk
      have fin : ∀ (ms : Array MapEntry), EsR w cx.fr M.es ms.toList → (∀ (i : Nat) (p : D × AV × Nat) (m : MapEntry), M.es[i]? = some p → ms[i]? = some m → ARel cx S w p.2.1 m.val) →
          ∃ u : Value × Bool, ∃ o, (Instr.findKey kt kv ms.toList).run C.P w = .ok o w ∧ ARel cx S w v (if ok then .tuple #[u.1, .bool u.2] else u.1) ∧
            ((∃ i, o = some (i, u.1) ∧ u.2 = true) ∨ (o = none ∧ (zeroValue et).run C.P w = .ok u.1 w ∧ u.2 = false)) := by
        intro ms hE hval
        have two : ∀ {y : AV} {x : Value} {b : Bool}, ARel cx S w y x → ARel cx S w (if ok = true then .tup [y, .d (.bool b)] else y) (if ok = true then .tuple #[x, .bool b] else x) := by
          intro y x b hy
          cases ok
          · exact hy
          · refine .tup [y, .d (.bool b)] [x, .bool b] rfl (fun i a c ha hc => ?_)
            match i, ha, hc with
            | 0, ha, hc => simp at ha hc; subst ha; subst hc; exact hy
            | 1, ha, hc => simp at ha hc; subst ha; subst hc; exact .of_bool b
        split at h
        · rename_i i y hf
          simp only [Option.some.injEq] at h; subst h
          obtain ⟨o, o1, o2⟩ := findKey_sound (P := C.P) hkey hk hE hf
          obtain ⟨b, m', _, _, q3, q4⟩ := found_val hval hf o2
          exact ⟨(m'.val, true), o, o1, two q4, .inl ⟨i, q3, rfl⟩⟩
        · rename_i hf
          simp only [Option.map_eq_some_iff] at h
          obtain ⟨z, hz, rfl⟩ := h
          obtain ⟨o, o1, o2⟩ := findKey_sound (P := C.P) hkey hk hE hf
          obtain ⟨zv, z1, z2⟩ := zero_sound hz w cx.fr
          have : o = none := o2
          exact ⟨(zv, false), o, o1, two (.d z zv z2), .inr ⟨this, z1, rfl⟩⟩
        · cases h
      have go : ∀ (ms : Array MapEntry) (u : Value × Bool) (o : Option (Nat × Value)), (Instr.findKey kt kv ms.toList).run C.P w = .ok o w → ((∃ i, o = some (i, u.1) ∧ u.2 = true) ∨ (o = none ∧ (zeroValue et).run C.P w = .ok u.1 w ∧ u.2 = false)) →
          ((mv = .map none ∧ ms = #[]) ∨ ∃ r c, mv = .map (some r) ∧ w.heap[r]? = some (.map ms c)) → (Instr.lookup t mv kv ok).run C.P w = .ok (if ok then .tuple #[u.1, .bool u.2] else u.1) w := by
        intro ms u o ho hor hmv
        obtain ⟨u1, u2⟩ := u
        rcases hmv with ⟨rfl, rfl⟩ | ⟨r, c, rfl, hr⟩ <;> rcases hor with ⟨i, rfl, hb⟩ | ⟨rfl, hz, hb⟩ <;> simp only at hb <;> subst hb
        · simp only [Instr.lookup, Sem.run_bind, run_und w hu, Result.andThen_ok, Sem.run_pure, hchk, ho]
        · simp only at hz
          simp only [Instr.lookup, Sem.run_bind, run_und w hu, Result.andThen_ok, Sem.run_pure, hchk, ho, hz]
        · simp only [Instr.lookup, Sem.run_bind, run_und w hu, Result.andThen_ok, Sem.run_pure, hchk, ho, MapKept.run_getObj_map hr]
        · simp only at hz
          simp only [Instr.lookup, Sem.run_bind, run_und w hu, Result.andThen_ok, Sem.run_pure, hchk, ho, hz, MapKept.run_getObj_map hr]
      unfold mapOf at hM
      split at hM
      · simp only [Option.some.injEq] at hM; subst hM
        have := hm.dd.val rfl; cases this
        obtain ⟨u, o, f1, f2, f3⟩ := fin #[] ⟨rfl, by simp⟩ (by simp)
        exact ⟨_, go #[] u o f1 f3 (.inl ⟨rfl, rfl⟩), f2⟩
      · rename_i id
        split at hM
        · rename_i M' hg
          simp only [Option.some.injEq] at hM; subst hM
          cases hm with
          | map _ b hn hp =>
            obtain ⟨p1, ms, p2, p3, p4, p5⟩ := map_esr hS hg (.map id b hn hp)
            subst p1
            obtain ⟨u, o, f1, f2, f3⟩ := fin ms p3 (fun i p m hp hm => (p4 i p m hp hm).2.2)
            exact ⟨_, go ms u o f1 f3 (.inr ⟨_, _, rfl, p2⟩), f2⟩
        · cases hM
      · cases hM
    · cases h
  · cases h

/-- The map's block is set. -/
theorem setmap_sound {R : ObjR} (hR : ObjOk R) {P : Program} {cx : Cx} {S : St} {w : World} (h : SRel R cx S w) {id : Nat} {M M' : MapD} (hg : S.H.get id = some (.map M)) {ms ms' : Array MapEntry} {c c' : Nat} (hb : w.heap[cx.bm id]? = some (.map ms c))
    (hd : ms'.size = M'.es.length ∧ c' = M'.clk)
    (hv : ∀ (i : Nat) (p : D × AV × Nat) (m : MapEntry), M'.es[i]? = some p → ms'[i]? = some m → m.born = p.2.2 ∧ DRel w cx.fr p.1 m.key ∧ ARel cx S w p.2.1 m.val) :
    ∃ w', (setObj (cx.bm id) (.map ms' c')).run P w = .ok () w' ∧ SRel R cx { S with H := S.H.set id (.map M') } w' ∧ Ext cx S w cx { S with H := S.H.set id (.map M') } w' := by
  have hlt : cx.bm id < w.heap.size := by
    rcases Nat.lt_or_ge (cx.bm id) w.heap.size with q | q
    · exact q
    · rw [Array.getElem?_eq_none q] at hb; cases hb
  refine ⟨_, MapKept.run_setObj_map _ hb, mwrite_sound hR h hg (by simp) (fun b hne => ?_) rfl rfl rfl (ms' := ms') (clk' := c') ?_ ⟨hd.1, hd.2, fun i p m hp hm => (hv i p m hp hm).1⟩ (fun i p m hp hm => (hv i p m hp hm).2)⟩
  · simp only [Array.getElem?_setIfInBounds]
    rw [if_neg (Ne.symm hne)]
  · simp only [Array.getElem?_setIfInBounds, hlt, if_true]

theorem stays_sound {P : Program} {w : World} {fr : Nat → Nat → Prop} {t : Nat} {k : D} {v u : Value} (hk : keyOk P t k = true) (h1 : DRel w fr k v) (h2 : DRel w fr k u) : (Instr.keyThatStays v u).run P w = .ok u w := by
  have := key_eq hk h1 h2; subst this
  unfold Instr.keyThatStays
  rw [if_pos (key_bits hk h1 9999)]
  rfl

/-- A list that goes on. -/
theorem push_entries {cx : Cx} {S : St} {w : World} {es : List (D × AV × Nat)} {ms : Array MapEntry} {p0 : D × AV × Nat} {m0 : MapEntry} (hsz : ms.size = es.length) (h : ∀ (i : Nat) (p : D × AV × Nat) (m : MapEntry), es[i]? = some p → ms[i]? = some m → m.born = p.2.2 ∧ DRel w cx.fr p.1 m.key ∧ ARel cx S w p.2.1 m.val)
    (h0 : m0.born = p0.2.2 ∧ DRel w cx.fr p0.1 m0.key ∧ ARel cx S w p0.2.1 m0.val) : ∀ (i : Nat) (p : D × AV × Nat) (m : MapEntry), (es ++ [p0])[i]? = some p → (ms.push m0)[i]? = some m → m.born = p.2.2 ∧ DRel w cx.fr p.1 m.key ∧ ARel cx S w p.2.1 m.val := by
  intro i p m hp hm
  rw [Array.getElem?_push] at hm
  rw [List.getElem?_append] at hp
  by_cases hi : i = ms.size
  · rw [if_pos hi] at hm
    rw [if_neg (by omega), show i - es.length = 0 by omega] at hp
    simp at hp hm; subst hp; subst hm; exact h0
  · rw [if_neg hi] at hm
    have hlt : i < ms.size := (Array.getElem?_eq_some_iff.1 hm).1
    rw [if_pos (by omega)] at hp
    exact h i p m hp hm

theorem modify_entries {cx : Cx} {S : St} {w : World} {es : List (D × AV × Nat)} {ms : Array MapEntry} {j : Nat} {f : D × AV × Nat → D × AV × Nat} {g : MapEntry → MapEntry} (h : ∀ (i : Nat) (p : D × AV × Nat) (m : MapEntry), es[i]? = some p → ms[i]? = some m → m.born = p.2.2 ∧ DRel w cx.fr p.1 m.key ∧ ARel cx S w p.2.1 m.val)
    (h0 : ∀ (p : D × AV × Nat) (m : MapEntry), es[j]? = some p → ms[j]? = some m → (g m).born = (f p).2.2 ∧ DRel w cx.fr (f p).1 (g m).key ∧ ARel cx S w (f p).2.1 (g m).val) : ∀ (i : Nat) (p : D × AV × Nat) (m : MapEntry), (es.modify j f)[i]? = some p → (ms.modify j g)[i]? = some m → m.born = p.2.2 ∧ DRel w cx.fr p.1 m.key ∧ ARel cx S w p.2.1 m.val := by
  intro i p m hp hm
  rw [Array.getElem?_modify] at hm
  rw [List.getElem?_modify] at hp
  by_cases hi : j = i
  · subst hi
    simp only [if_true, Option.map_eq_map, Option.map_eq_some_iff] at hp hm
    obtain ⟨p1, q1, q2⟩ := hp
    obtain ⟨m1, r1, r2⟩ := hm
    have q2' : f p1 = p := by simpa using q2
    subst q2'; subst r2
    exact h0 p1 m1 q1 r1
  · rw [if_neg hi] at hm
    simp only [Option.map_eq_map, Option.map_eq_some_iff] at hp
    obtain ⟨p1, q1, q2⟩ := hp
    have q2' : p1 = p := by simpa [hi] using q2
    subst q2'
    exact h i p1 m q1 hm

theorem update_sound {R : ObjR} (hR : ObjOk R) {C : Cfg} {cx : Cx} {S S' : St} {w : World} (hS : SRel R cx S w) {t : Nat} {m v : AV} {k : D} {mv kv vv : Value} (h : opUpdate C t S m k v = some S') (hm : ARel cx S w m mv) (hk : DRel w cx.fr k kv) (hv : ARel cx S w v vv) :
    ∃ w', (Instr.mapUpdate t mv kv vv).run C.P w = .ok () w' ∧ SRel R cx S' w' ∧ Ext cx S w cx S' w' := by
  unfold opUpdate at h
  split at h
  · rename_i kt et id hkt
    have hu := keyT_some hkt
    split at h
    · rename_i M hg
      split at h
      · rename_i hc
        simp only [Bool.and_eq_true] at hc
        obtain ⟨hkey, hpl⟩ := hc
        have hchk := check_key hkey hk false
        cases hm with
        | map _ b hn hp =>
        obtain ⟨p1, ms, p2, p3, p4, p5⟩ := map_esr hS hg (.map id b hn hp)
        subst p1
        split at h
        · rename_i i y hf
          simp only [Option.some.injEq] at h; subst h
          obtain ⟨o, o1, o2⟩ := findKey_sound (P := C.P) hkey hk p3 hf
          obtain ⟨bn, m', q1, q2, q3, q4⟩ := found_val (fun i p m hp hm => (p4 i p m hp hm).2.2) hf o2
          subst q3
          obtain ⟨w', k1, k2, k3⟩ := setmap_sound hR (P := C.P) (M' := { M with es := M.es.modify i fun p => (k, v, p.2.2) }) (ms' := ms.modify i fun e => { e with key := kv, val := vv }) (c' := M.clk) hS hg p2 ⟨by simp [p5], rfl⟩
            (modify_entries p4 (fun p m hp hm => ⟨(p4 i p m hp hm).1, hk, hv⟩))
          refine ⟨w', ?_, k2, k3⟩
          have hst := stays_sound hkey (p4 i _ m' q1 q2).2.1 hk
          simp only [Instr.mapUpdate, Sem.run_bind, run_und w hu, Result.andThen_ok, MapKept.run_getObj_map p2, hchk, o1, q2, Option.map_some, Option.getD_some, hst]
          exact k1
        · rename_i hf
          simp only [Option.some.injEq] at h; subst h
          obtain ⟨o, o1, o2⟩ := findKey_sound (P := C.P) hkey hk p3 hf
          have : o = none := o2
          subst this
          obtain ⟨w', k1, k2, k3⟩ := setmap_sound hR (P := C.P) (M' := { es := M.es ++ [(k, v, M.clk)], clk := M.clk + 1 }) (ms' := ms.push { key := kv, val := vv, born := M.clk }) (c' := M.clk + 1) hS hg p2 ⟨by simp [p5], rfl⟩
            (push_entries p5 p4 ⟨rfl, hk, hv⟩)
          refine ⟨w', ?_, k2, k3⟩
          simp only [Instr.mapUpdate, Sem.run_bind, run_und w hu, Result.andThen_ok, MapKept.run_getObj_map p2, hchk, o1]
          exact k1
        · cases h
      · cases h
    · cases h
  · cases h

/-- A block that is set to what it is. -/
theorem set_same {R : ObjR} {cx : Cx} {S : St} {w w' : World} {id : Nat} {b : Blk} (hg : S.H.get id = some b) (h1 : SRel R cx { S with H := S.H.set id b } w') (h2 : Ext cx S w cx { S with H := S.H.set id b } w') : SRel R cx S w' ∧ Ext cx S w cx S w' := by
  have hH : ∀ i, ({ S with H := S.H.set id b } : St).H.get i = S.H.get i := fun i => by
    simp only [AL.get_set]
    by_cases q : id = i
    · subst q; simp [hg]
    · simp [q]
  have hcur : ∀ i, cur { S with H := S.H.set id b } i = cur S i := fun i => by unfold cur; rw [hH i]
  have hl : ∀ i, live { S with H := S.H.set id b } i ↔ live S i := fun i => by unfold live; rw [hcur i]
  have e2 : Ext cx { S with H := S.H.set id b } w' cx S w' := by
    refine ⟨Nat.le_refl _, rfl, rfl, rfl, Nat.le_refl _, fun _ _ _ q1 q2 => ⟨q2, q1⟩, fun _ _ _ => ⟨rfl, fun _ => Iff.rfl⟩, fun i b hi hf => ⟨fun _ => ⟨(hl i).2 hi, .inl hf⟩, fun hge => absurd (h1.wf i ((hl i).2 hi)) (by show ¬ i < S.nx; exact Nat.not_lt.2 hge)⟩, fun i g _ hi => ⟨g, by unfold isIt at *; rw [hH i]; exact hi⟩, fun _ _ _ _ _ _ hf => hf, fun i g hi hg' => ⟨g, by rw [hcur i]; exact hg', Nat.le_refl _, fun _ => ⟨rfl, rfl, rfl⟩⟩⟩
  refine ⟨⟨fun i hi => h1.wf i ((hl i).2 hi), fun i b hi => h1.dis i b (by rw [hH i]; exact hi), fun i g cs hi => ?_, fun i es hi => ?_, fun i k x hi => h1.objs i k x (by rw [hH i]; exact hi), fun i n hi => h1.toks i n hi, fun i i' b a1 a2 => h1.sep i i' b ((hl i).2 a1) ((hl i').2 a2), h1.lt, h1.stat⟩, h2.trans e2⟩
  · obtain ⟨d1, d2, arr2, el2, d3, d4, d5⟩ := h1.cells i g cs (by rw [hH i]; exact hi)
    exact ⟨d1, d2, arr2, el2, d3, d4, fun j x hx => by
      obtain ⟨v, v1, v2, v3⟩ := d5 j x hx
      exact ⟨v, v1, v2.mono e2, v3⟩⟩
  · obtain ⟨d1, d2, ms, clk, d3, d4, d5⟩ := h1.maps i es (by rw [hH i]; exact hi)
    exact ⟨d1, d2, ms, clk, d3, d4, fun j p m hp hm => by
      obtain ⟨v1, v2⟩ := d5 j p m hp hm
      exact ⟨v1, v2.mono e2⟩⟩

theorem entry_sound {R : ObjR} (hR : ObjOk R) {C : Cfg} {cx : Cx} {S : St} {w : World} (hS : SRel R cx S w) {t : Nat} {m : AV} {k : D} {r : AV × St} {mv kv : Value} (h : opEntry C t S m k = some r) (hm : ARel cx S w m mv) (hk : DRel w cx.fr k kv) :
    ∃ w' u, (Instr.mapEntry t mv kv).run C.P w = .ok u w' ∧ SRel R cx r.2 w' ∧ Ext cx S w cx r.2 w' ∧ ARel cx r.2 w' r.1 u := by
  have two : ∀ {S' : St} {w' : World} {y : AV} {x : Value} {n : Nat}, ARel cx S' w' y x → ARel cx S' w' (.tup [y, .d (.int .i64 (n : Nat))]) (.tuple #[x, goInt n]) := by
    intro S' w' y x n hy
    refine .tup [y, .d (.int .i64 n)] [x, goInt n] rfl (fun i a c ha hc => ?_)
    match i, ha, hc with
    | 0, ha, hc => simp at ha hc; subst ha; subst hc; exact hy
    | 1, ha, hc => simp at ha hc; subst ha; subst hc; exact .of_int _ _
  unfold opEntry at h
  split at h
  · rename_i kt et id hkt
    have hu := keyT_some hkt
    split at h
    · rename_i M hg
      split at h
      · rename_i hkey
        have hchk := check_key hkey hk false
        cases hm with
        | map _ b hn hp =>
        obtain ⟨p1, ms, p2, p3, p4, p5⟩ := map_esr hS hg (.map id b hn hp)
        subst p1
        split at h
        · rename_i i y hf
          split at h
          · rename_i p hpi
            simp only [Option.some.injEq] at h; subst h
            obtain ⟨o, o1, o2⟩ := findKey_sound (P := C.P) hkey hk p3 hf
            obtain ⟨bn, m', q1, q2, q3, q4⟩ := found_val (fun i p m hp hm => (p4 i p m hp hm).2.2) hf o2
            subst q3
            rw [hpi] at q1
            simp only [Option.some.injEq] at q1; subst q1
            have hsame : M.es.modify i (fun p => (k, p.2.1, p.2.2)) = M.es := by
              apply List.ext_getElem?
              intro j
              rw [List.getElem?_modify]
              by_cases hj : i = j
              · subst hj; rw [hpi]; simp
              · simp [hj]
            obtain ⟨w', k1, k2, k3⟩ := setmap_sound hR (P := C.P) (M' := { M with es := M.es.modify i fun p => (k, p.2.1, p.2.2) }) (ms' := ms.modify i fun e => { e with key := kv }) (c' := M.clk) hS hg p2 ⟨by simp [p5], rfl⟩
              (modify_entries p4 (fun p m hp hm => ⟨(p4 i p m hp hm).1, hk, (p4 i p m hp hm).2.2⟩))
            rw [hsame] at k2 k3
            have hback : SRel R cx S w' ∧ Ext cx S w cx S w' := set_same hg k2 k3
            have hborn := (p4 i _ m' hpi q2).1
            refine ⟨w', .tuple #[m'.val, goInt m'.born], ?_, hback.1, hback.2, ?_⟩
            · have hst := stays_sound hkey (p4 i _ m' hpi q2).2.1 hk
              simp only [Instr.mapEntry, Sem.run_bind, run_und w hu, Result.andThen_ok, MapKept.run_getObj_map p2, hchk, o1, q2, Option.map_some, Option.getD_some, hst]
              rw [k1]; rfl
            · rw [hborn]
              exact two (q4.mono hback.2)
          · cases h
        · rename_i hf
          simp only [Option.map_eq_some_iff] at h
          obtain ⟨z, hz, rfl⟩ := h
          obtain ⟨o, o1, o2⟩ := findKey_sound (P := C.P) hkey hk p3 hf
          have : o = none := o2
          subst this
          obtain ⟨zv, z1, z2⟩ := zero_sound hz w cx.fr
          obtain ⟨w', k1, k2, k3⟩ := setmap_sound hR (P := C.P) (M' := { es := M.es ++ [(k, .d z, M.clk)], clk := M.clk + 1 }) (ms' := ms.push { key := kv, val := zv, born := M.clk }) (c' := M.clk + 1) hS hg p2 ⟨by simp [p5], rfl⟩
            (push_entries p5 p4 ⟨rfl, hk, .d z zv z2⟩)
          refine ⟨w', .tuple #[zv, goInt M.clk], ?_, k2, k3, two ((ARel.d z zv z2).mono k3)⟩
          simp only [Instr.mapEntry, Sem.run_bind, run_und w hu, Result.andThen_ok, MapKept.run_getObj_map p2, hchk, o1, z1]
          rw [k1]; rfl
        · cases h
      · cases h
    · cases h
  · cases h

theorem findBorn_spec {n : Nat} : ∀ {es : List (D × AV × Nat)} {i0 i : Nat}, findBorn n es i0 = some i → i0 ≤ i ∧ (∃ p, es[i - i0]? = some p ∧ p.2.2 = n) ∧ ∀ j p, i0 ≤ j → j < i → es[j - i0]? = some p → p.2.2 ≠ n
  | [], i0, i, h => by simp [findBorn] at h
  | (x, v, b) :: l, i0, i, h => by
    simp only [findBorn] at h
    cases hb : Nat.beq b n with
    | true =>
      rw [hb] at h
      simp only [cond_true, Option.some.injEq] at h
      subst h
      exact ⟨Nat.le_refl _, ⟨(x, v, b), by simp, Nat.eq_of_beq_eq_true hb⟩, fun j p h1 h2 => by omega⟩
    | false =>
      rw [hb] at h
      simp only [cond_false] at h
      obtain ⟨h1, ⟨p, h2, h3⟩, h4⟩ := findBorn_spec h
      refine ⟨by omega, ⟨p, ?_, h3⟩, fun j q hj1 hj2 hq => ?_⟩
      · rw [show i - i0 = (i - (i0 + 1)) + 1 by omega]; simpa using h2
      · by_cases hj : j = i0
        · subst hj
          simp at hq; subst hq
          intro e
          simp only at e
          rw [e] at hb
          simp at hb
        · refine h4 j q (by omega) hj2 ?_
          rw [show j - i0 = (j - (i0 + 1)) + 1 by omega] at hq
          simpa using hq

theorem entryStore_sound {R : ObjR} (hR : ObjOk R) {C : Cfg} {cx : Cx} {S S' : St} {w : World} (hS : SRel R cx S w) {t : Nat} {m v : AV} {st : D} {mv sv vv : Value} (h : opEntryStore S m st v = some S') (hm : ARel cx S w m mv) (hs : DRel w cx.fr st sv) (hv : ARel cx S w v vv) :
    ∃ w', (Instr.entryStore t mv sv vv).run C.P w = .ok () w' ∧ SRel R cx S' w' ∧ Ext cx S w cx S' w' := by
  unfold opEntryStore at h
  split at h
  · rename_i id n
    split at h
    · rename_i M hg
      split at h
      · rename_i hc
        obtain ⟨hn0, hpl⟩ := hc
        have := hs.val rfl; cases this
        cases hm with
        | map _ b hn hp =>
        obtain ⟨p1, ms, p2, p3, p4, p5⟩ := map_esr hS hg (.map id b hn hp)
        subst p1
        split at h
        · rename_i i hf
          simp only [Option.some.injEq] at h; subst h
          obtain ⟨_, ⟨p, f2, f3⟩, f4⟩ := findBorn_spec hf
          rw [Nat.sub_zero] at f2
          have hil : i < ms.size := by rw [p5]; exact (List.getElem?_eq_some_iff.1 f2).1
          have hidx : ms.findIdx? (fun e => (e.born : Int) == n) = some i := by
            rw [Array.findIdx?_eq_some_iff_getElem]
            refine ⟨hil, ?_, fun j hj => ?_⟩
            · have := (p4 i p ms[i] f2 (by simp [hil])).1
              rw [this, f3]
              simp [Int.toNat_of_nonneg hn0]
            · have hjl : j < M.es.length := by omega
              have hq := List.getElem?_eq_getElem hjl
              have hb := (p4 j M.es[j] ms[j] hq (by simp [show j < ms.size by omega])).1
              have hne := f4 j M.es[j] (Nat.zero_le _) hj (by rw [Nat.sub_zero]; exact hq)
              simp only [beq_iff_eq]
              rw [hb]
              intro e
              apply hne
              omega
          obtain ⟨w', k1, k2, k3⟩ := setmap_sound hR (P := C.P) (M' := { M with es := M.es.modify i fun p => (p.1, v, p.2.2) }) (ms' := ms.modify i fun e => { e with val := vv }) (c' := M.clk) hS hg p2 ⟨by simp [p5], rfl⟩
            (modify_entries p4 (fun p m hp hm => ⟨(p4 i p m hp hm).1, (p4 i p m hp hm).2.1, hv⟩))
          refine ⟨w', ?_, k2, k3⟩
          have hint : (asInt (.int .i64 n)).run C.P w = .ok n w := by simp [asInt, asIntOf]
          simp only [Instr.entryStore, Sem.run_bind, Sem.run_pure, Result.andThen_ok, MapKept.run_getObj_map p2, hint, hidx]
          exact k1
        · cases h
      · cases h
    · cases h
  · cases h

theorem erase_entries {cx : Cx} {S : St} {w : World} {es : List (D × AV × Nat)} {ms : Array MapEntry} {j : Nat} (h : ∀ (i : Nat) (p : D × AV × Nat) (m : MapEntry), es[i]? = some p → ms[i]? = some m → m.born = p.2.2 ∧ DRel w cx.fr p.1 m.key ∧ ARel cx S w p.2.1 m.val) :
    ∀ (i : Nat) (p : D × AV × Nat) (m : MapEntry), (es.eraseIdx j)[i]? = some p → (ms.eraseIdxIfInBounds j)[i]? = some m → m.born = p.2.2 ∧ DRel w cx.fr p.1 m.key ∧ ARel cx S w p.2.1 m.val := by
  intro i p m hp hm
  have hm' : (ms.toList.eraseIdx j)[i]? = some m := by
    rw [← Array.getElem?_toList] at hm
    simpa using hm
  rw [List.getElem?_eraseIdx] at hp hm'
  split at hp
  · rename_i hlt
    rw [if_pos hlt] at hm'
    exact h i p m hp (by simpa using hm')
  · rename_i hlt
    rw [if_neg hlt] at hm'
    exact h (i + 1) p m hp (by simpa using hm')

theorem delete_sound {R : ObjR} (hR : ObjOk R) {C : Cfg} {cx : Cx} {S S' : St} {w : World} (hS : SRel R cx S w) {t ty : Nat} {m : AV} {k : D} {mv kv : Value} (h : opDelete C t S m k = some S') (hm : ARel cx S w m mv) (hk : DRel w cx.fr k kv) :
    ∃ w', (Builtin.delete_ #[t] ty #[mv, kv]).run C.P w = .ok (.tuple #[]) w' ∧ SRel R cx S' w' ∧ Ext cx S w cx S' w' := by
  unfold opDelete at h
  split at h
  · rename_i kt et id hkt
    have hu := keyT_some hkt
    split at h
    · rename_i M hg
      split at h
      · rename_i hkey
        cases hm with
        | map _ b hn hp =>
        obtain ⟨p1, ms, p2, p3, p4, p5⟩ := map_esr hS hg (.map id b hn hp)
        subst p1
        have hchk := check_key hkey hk ms.isEmpty
        split at h
        · rename_i i y hf
          simp only [Option.some.injEq] at h; subst h
          obtain ⟨o, o1, o2⟩ := findKey_sound (P := C.P) hkey hk p3 hf
          obtain ⟨bn, m', q1, q2, q3, q4⟩ := found_val (fun i p m hp hm => (p4 i p m hp hm).2.2) hf o2
          subst q3
          obtain ⟨w', k1, k2, k3⟩ := setmap_sound hR (P := C.P) (M' := { M with es := M.es.eraseIdx i }) (ms' := ms.eraseIdxIfInBounds i) (c' := M.clk) hS hg p2 ⟨by
              have e1 : (ms.eraseIdxIfInBounds i).toList = ms.toList.eraseIdx i := by simp
              rw [← Array.length_toList, e1, List.length_eraseIdx, List.length_eraseIdx, Array.length_toList, p5], rfl⟩ (erase_entries p4)
          refine ⟨w', ?_, k2, k3⟩
          simp only [Builtin.delete_, List.getElem?_toArray, List.getElem?_cons_zero, List.getElem?_cons_succ, Sem.run_bind, run_und w hu, Result.andThen_ok, MapKept.run_getObj_map p2, hchk, o1, k1, Sem.run_pure]
        · rename_i hf
          simp only [Option.some.injEq] at h; subst h
          obtain ⟨o, o1, o2⟩ := findKey_sound (P := C.P) hkey hk p3 hf
          have : o = none := o2
          subst this
          obtain ⟨w', k1, k2, k3⟩ := setmap_sound hR (P := C.P) (M' := M) (ms' := ms) (c' := M.clk) hS hg p2 ⟨p5, rfl⟩ p4
          obtain ⟨k2, k3⟩ := set_same hg k2 k3
          refine ⟨w', ?_, k2, k3⟩
          simp only [Builtin.delete_, List.getElem?_toArray, List.getElem?_cons_zero, List.getElem?_cons_succ, Sem.run_bind, run_und w hu, Result.andThen_ok, MapKept.run_getObj_map p2, hchk, o1, k1, Sem.run_pure]
        · cases h
      · cases h
    · cases h
  · cases h

end
end Go.Ev


namespace Go.Ev
noncomputable section
set_option linter.unusedVariables false
set_option linter.unusedSimpArgs false

/-- An object goes on in another state, or is put away. -/
theorem obj_sound {R : ObjR} (hR : ObjOk R) {cx cx' : Cx} {S S' : St} {w w' : World} (h : SRel R cx S w) {id k0 : Nat} {x0 : D} (hg : S.H.get id = some (.obj k0 x0)) (hmo : ∀ k x, S'.H.get id = some (.obj k x) → genD x0 ≤ genD x) (hbk : ∀ g, isIt S' id g → ∃ g', isIt S id g') (hdi : ∀ g, isIt S id g → ¬ isIt S' id g)
    (hT : S'.T = S.T) (hnx : S'.nx = S.nx) (hH : ∀ i, i ≠ id → S'.H.get i = S.H.get i) (hHid : S'.H.get id = none ∨ ∃ k x, S'.H.get id = some (.obj k x) ∧ R.rel k x w' (cx'.bm id) (cx'.fp id))
    (hs : w.heap.size ≤ w'.heap.size) (h1 : w'.os = w.os) (h2 : w'.tape = w.tape) (h3 : w'.output = w.output)
    (hoth : ∀ b, b < w.heap.size → ¬ cx.fp id b → w'.heap[b]? = w.heap[b]?)
    (hbm : ∀ i, cx'.bm i = cx.bm i) (hfp : ∀ i, i ≠ id → ∀ b, (cx'.fp i b ↔ cx.fp i b)) (htsz : ∀ i, cx'.tsz i = cx.tsz i) (htot : ∀ i, cx'.tot i = cx.tot i)
    (hfpt : ∀ b, cx'.fp id b → cx.fp id b ∨ (w.heap.size ≤ b ∧ b < w'.heap.size)) (hfpf : ∀ b o, cx'.fp id b → cx'.fr b o)
    (hfr1 : ∀ b o, ¬ cx.fr b o → b < w.heap.size → ¬ cx'.fr b o) (hfr2 : ∀ b o, cx.fr b o → cx'.fr b o) (hfr3 : ∀ b o, cx'.fr b o → b < w'.heap.size) :
    SRel R cx' S' w' ∧ Ext cx S w cx' S' w' := by
  obtain ⟨t1, t2⟩ := h.objs id k0 x0 hg
  have hlive : live S id := by simp [live, cur, hg]
  have hcur : ∀ i, i ≠ id → cur S' i = cur S i := fun i hi => by
    unfold cur; rw [hH i hi, hT]
  have hcurt : ∀ g, cur S' id = some g → genD x0 ≤ g := fun g hc => by
    unfold cur at hc
    rcases hHid with q | ⟨k, x, q, _⟩
    · rw [q, hT, h.dis id _ hg] at hc; cases hc
    · have := hmo k x q
      rw [q] at hc
      simp only [Option.some.injEq] at hc
      omega
  have hl' : ∀ i, live S' i → live S i := fun i hl => by
    by_cases hi : i = id
    · subst hi; exact hlive
    · unfold live at *; rwa [hcur i hi] at hl
  have e : Ext cx S w cx' S' w' := by
    refine ⟨hs, h1, h2, h3, by rw [hnx]; exact Nat.le_refl _, fun b o v hf hcl => ⟨?_, hfr1 b o hf (cell_lt hcl)⟩, fun b hb hn => ?_, fun i b hl hf => ?_, fun i gi _ hi => ?_, fun i gi b _ h0 h2 hf => ?_, fun i gg hi hgg => ?_⟩
    · exact cell_old (hoth b (cell_lt hcl) (fun q => hf (t2 b o q))) hcl
    · exact ⟨hoth b hb (fun q => by obtain ⟨_, g, z1, z2⟩ := hn id hlive q; exact hdi g z1 z2), fun o => ⟨fun q => Classical.byContradiction fun q' => hfr1 b o q' hb q, hfr2 b o⟩⟩
    · refine ⟨fun _ => ⟨hl' i hl, ?_⟩, fun hge => absurd (h.wf i (hl' i hl)) (by show ¬ i < S.nx; omega)⟩
      by_cases hi : i = id
      · subst hi
        rcases hfpt b hf with q | q
        · exact .inl q
        · exact .inr q.1
      · exact .inl ((hfp i hi b).1 hf)
    · by_cases q : i = id
      · subst q; exact hbk gi hi
      · exact ⟨gi, by unfold isIt at *; rwa [hH i q] at hi⟩
    · have q : i ≠ id := fun q => by subst q; exact hdi gi h0 h2
      exact (hfp i q b).2 hf
    · by_cases hi' : i = id
      · subst hi'
        have := hcurt gg hgg
        exact ⟨genD x0, by simp [cur, hg], this, fun _ => ⟨hbm i, htsz i, htot i⟩⟩
      · rw [hcur i hi'] at hgg
        exact ⟨gg, hgg, Nat.le_refl _, fun _ => ⟨hbm i, htsz i, htot i⟩⟩
  have hne : ∀ i, live S i → i ≠ id → ∀ b, cx.fp i b → ¬ cx.fp id b := fun i hi hne b hf hq => hne (h.sep i id b hi hlive hf hq)
  refine ⟨⟨fun i hi => by rw [hnx]; exact h.wf i (hl' i hi), fun i b hi => ?_, fun i gg cs2 hi => ?_, fun i es hi => ?_, fun i k x hi => ?_, fun i n hi => ?_, fun i i' b a1 a2 f1 f2 => ?_, hfr3, hR.stat _ _ _ _ h.stat e.prot⟩, e⟩
  · rw [hT]
    by_cases q : i = id
    · subst q; exact h.dis i _ hg
    · rw [hH i q] at hi; exact h.dis i b hi
  · by_cases q : i = id
    · subst q
      rcases hHid with z | ⟨k, x, z, _⟩
      · rw [z] at hi; cases hi
      · rw [z] at hi; cases hi
    · rw [hH i q] at hi
      obtain ⟨d1, d2, arr2, el2, d3, d4, d5⟩ := h.cells i gg cs2 hi
      have hb := hne i (by simp [live, cur, hi]) q _ ((d1 _).2 rfl)
      refine ⟨fun b => by rw [hfp i q, hbm i]; exact d1 b, fun o => by rw [hbm i]; exact hfr2 _ _ (d2 o), arr2, el2, ?_, by rw [htsz i, htot i]; exact d4, fun j x hx => by
        obtain ⟨v, v1, v2, v3⟩ := d5 j x hx
        exact ⟨v, v1, v2.mono e, v3⟩⟩
      rw [hbm i, hoth _ (h.lt _ 0 (d2 0)) hb]; exact d3
  · by_cases q : i = id
    · subst q
      rcases hHid with z | ⟨k, x, z, _⟩
      · rw [z] at hi; cases hi
      · rw [z] at hi; cases hi
    · rw [hH i q] at hi
      obtain ⟨d1, d2, ms, clk, d3, d4, d5⟩ := h.maps i es hi
      have hb := hne i (by simp [live, cur, hi]) q _ ((d1 _).2 rfl)
      refine ⟨fun b => by rw [hfp i q, hbm i]; exact d1 b, fun o => by rw [hbm i]; exact hfr2 _ _ (d2 o), ms, clk, ?_, d4, fun j p m hp hm => by
        obtain ⟨v1, v2⟩ := d5 j p m hp hm
        exact ⟨v1.mono e.prot, v2.mono e⟩⟩
      rw [hbm i, hoth _ (h.lt _ 0 (d2 0)) hb]; exact d3
  · by_cases q : i = id
    · subst q
      rcases hHid with z | ⟨k', x', z, hr⟩
      · rw [z] at hi; cases hi
      · rw [z] at hi; cases hi
        exact ⟨hr, hfpf⟩
    · rw [hH i q] at hi
      obtain ⟨d1, d2⟩ := h.objs i k x hi
      have hf : cx'.fp i = cx.fp i := funext fun b => propext (hfp i q b)
      rw [hbm i, hf]
      have hb := hne i (by simp [live, cur, hi]) q
      exact ⟨hR.frame k x w w' _ _ d1 (fun c hc => hoth c ((hR.lt k x w _ _ d1).1 c hc) (hb c hc)), fun b o hbf => hfr2 b o (d2 b o hbf)⟩
  · rw [hT] at hi
    have q : i ≠ id := fun q => by subst q; have := h.dis i _ hg; rw [this] at hi; cases hi
    obtain ⟨hci, hHi⟩ := cur_T h hi
    obtain ⟨d1, d2, arr2, el2, fz, d3, d4, d5, d6⟩ := h.toks i n hi
    have hb := hne i (by simp [live, hci]) q _ ((d1 _).2 rfl)
    have hlt : cx.bm i < w.heap.size := h.lt _ _ (d2 _ (Nat.le_refl _))
    refine ⟨fun b => by rw [hfp i q, hbm i]; exact d1 b, fun o ho => ?_, arr2, el2, fz, ?_, ?_, ?_, ?_⟩
    · rw [htsz i] at ho; rw [hbm i]; exact hfr2 _ _ (d2 o ho)
    · rw [hbm i, hoth _ hlt hb]; exact d3
    · rw [htsz i, htot i]; exact d4
    · rw [htot i]; exact d5
    · rw [htsz i]; exact d6
  · by_cases q : i = id <;> by_cases q' : i' = id
    · omega
    · exfalso
      subst q
      have f2' := (hfp i' q' b).1 f2
      rcases hfpt b f1 with z | z
      · exact hne i' (hl' i' a2) q' b f2' z
      · have := h.fp_lt hR (hl' i' a2) f2'; omega
    · exfalso
      subst q'
      have f1' := (hfp i q b).1 f1
      rcases hfpt b f2 with z | z
      · exact hne i (hl' i a1) q b f1' z
      · have := h.fp_lt hR (hl' i a1) f1'; omega
    · exact h.sep i i' b (hl' i a1) (hl' i' a2) ((hfp i q b).1 f1) ((hfp i' q' b).1 f2)


/-- A new iterator. -/
theorem newit_sound {R : ObjR} (hR : ObjOk R) {cx : Cx} {S : St} {w : World} (hS : SRel R cx S w) (m : Option Nat) (since st : Nat) (seen : Array Nat) :
    ∃ cx', SRel R cx' (newBlk S (.obj 3 (.int .i64 0))) (w.alloc (.mapIter m since seen st)) ∧ Ext cx S w cx' (newBlk S (.obj 3 (.int .i64 0))) (w.alloc (.mapIter m since seen st)) ∧
      Names (newBlk S (.obj 3 (.int .i64 0))) S.nx 0 ∧ (w.heap.size = cx'.bm S.nx ∧ cx'.fp S.nx w.heap.size ∧ (∀ i, cur (newBlk S (.obj 3 (.int .i64 0))) i ≠ none → cx'.fp i w.heap.size → i = S.nx) ∧
        (w.alloc (.mapIter m since seen st)).heap[w.heap.size]? = some (.mapIter m since seen st)) := by
  obtain ⟨cx', k1, k2, k3⟩ := newobj_sound hR hS 3 (.int .i64 0) (.mapIter m since seen st) rfl ((hR.it _ _ _ _).2 ⟨by rw [size_alloc]; omega, fun c => Iff.rfl⟩)
  have hget : (newBlk S (.obj 3 (.int .i64 0))).H.get S.nx = some (.obj 3 (.int .i64 0)) := by simp [newBlk, AL.get_set]
  have hcur : cur (newBlk S (.obj 3 (.int .i64 0))) S.nx = some 0 := by unfold cur; rw [hget]; rfl
  cases k3 with
  | ptr _ _ _ _ hn hp =>
  have hb := hp hcur
  have hf : cx'.fp S.nx w.heap.size := ((((hR.it _ _ _ _).1 (k1.objs _ _ _ hget).1).2) _).2 hb
  exact ⟨cx', k1, k2, hn, hb, hf, fun i hi hfi => k1.sep i S.nx _ hi (by simp [live, hcur]) hfi hf, heap_alloc_new w _⟩

theorem range_sound {R : ObjR} (hR : ObjOk R) {C : Cfg} {cx : Cx} {S : St} {w : World} (hS : SRel R cx S w) {t id : Nat} {kt : Nat × Nat} {M : MapD} {v : Value} (ht : keyT C t = some kt) (hg : S.H.get id = some (.map M)) (hx : ARel cx S w (.map id) v) :
    ∃ cx' w' u, (Instr.range t v).run C.P w = .ok u w' ∧ SRel R cx' (newBlk S (.obj 3 (.int .i64 0))) w' ∧ Ext cx S w cx' (newBlk S (.obj 3 (.int .i64 0))) w' ∧ ARel cx' (newBlk S (.obj 3 (.int .i64 0))) w' (.it S.nx 0 (some id) M.clk [] M.clk) u := by
  have hu := keyT_some (k := kt.1) (e := kt.2) ht
  cases hx with
  | map _ b hn hp =>
  obtain ⟨p1, ms, p2, p3, p4, p5⟩ := map_esr hS hg (.map id b hn hp)
  subst p1
  obtain ⟨cx', k1, k2, k3, k4⟩ := newit_sound hR hS (some (cx.bm id)) M.clk M.clk #[]
  refine ⟨cx', _, .pointer (some ⟨w.heap.size, 0, none⟩), ?_, k1, k2, ?_⟩
  · simp only [Instr.range, Sem.run_bind, run_und w hu, Result.andThen_ok, MapKept.run_getObj_map p2, Sem.run_pure]
    rfl
  · refine .it S.nx 0 id M.clk M.clk w.heap.size (cx.bm id) [] k3 (hn.mono k2) (fun hc => ?_) (fun _ => k4)
    exact (hn.pos k2 hc).2.1.symm

theorem range_nil_sound {R : ObjR} (hR : ObjOk R) {C : Cfg} {cx : Cx} {S : St} {w : World} (hS : SRel R cx S w) {t : Nat} {kt : Nat × Nat} {v : Value} (ht : keyT C t = some kt) (hx : ARel cx S w (.d .nilm) v) :
    ∃ cx' w' u, (Instr.range t v).run C.P w = .ok u w' ∧ SRel R cx' (newBlk S (.obj 3 (.int .i64 0))) w' ∧ Ext cx S w cx' (newBlk S (.obj 3 (.int .i64 0))) w' ∧ ARel cx' (newBlk S (.obj 3 (.int .i64 0))) w' (.it S.nx 0 none 0 [] 0) u := by
  have hu := keyT_some (k := kt.1) (e := kt.2) ht
  have := hx.dd.val rfl
  cases this
  obtain ⟨cx', k1, k2, k3, k4⟩ := newit_sound hR hS none 0 0 #[]
  refine ⟨cx', _, .pointer (some ⟨w.heap.size, 0, none⟩), ?_, k1, k2, .it0 S.nx 0 0 0 w.heap.size [] k3 (fun _ => k4)⟩
  simp only [Instr.range, Sem.run_bind, run_und w hu, Result.andThen_ok, Sem.run_pure]
  rfl

theorem entry_sound2 {R : ObjR} {C : Cfg} {cx : Cx} {S : St} {w : World} (hS : SRel R cx S w) {k g id since st n i : Nat} {seen : List Nat} {M : MapD} {p : D × AV × Nat} {v : Value} (hx : ARel cx S w (.it k g (some id) since seen st) v)
    (hg : S.H.get id = some (.map M)) (hl : seen.getLast? = some n) (hk : isIt S k g) (hc : M.clk = st) (hf : findBorn n M.es 0 = some i) (hp : M.es[i]? = some p) :
    ∃ u, (Instr.entry v).run C.P w = .ok u w ∧ ARel cx S w (.tup [.d p.1, p.2.1]) u := by
  cases hx with
  | it _ _ _ _ _ b m _ hn hni hm hpos =>
  obtain ⟨_, _, _, hb⟩ := hpos hk
  have hm := hm (by simp [cur, hg])
  subst hm
  obtain ⟨c1, c2, ms, clk, c3, ⟨c4, c4', c4''⟩, c5⟩ := hS.maps id M hg
  subst c4'
  have hlt : i < ms.size := by rw [c4]; exact (List.getElem?_eq_some_iff.1 hp).1
  have hmi : ms[i]? = some ms[i] := Array.getElem?_eq_getElem hlt
  obtain ⟨r1, r2⟩ := c5 i p _ hp hmi
  obtain ⟨_, ⟨q, f2, f3⟩, f4⟩ := findBorn_spec hf
  rw [Nat.sub_zero] at f2
  have hqp : q = p := by rw [hp] at f2; exact (Option.some.inj f2).symm
  subst hqp
  have hfind : ms.find? (fun e => e.born == n) = some ms[i] := by
    rw [Array.find?_eq_some_iff_getElem]
    refine ⟨by simp [c4'' i q _ hp hmi, f3], i, hlt, rfl, fun j hj => ?_⟩
    have hjl : j < M.es.length := by rw [← c4]; omega
    have hq := List.getElem?_eq_getElem hjl
    have hbj := c4'' j M.es[j] ms[j] hq (Array.getElem?_eq_getElem (by omega))
    have hne := f4 j M.es[j] (Nat.zero_le _) hj (by rw [Nat.sub_zero]; exact hq)
    simp [hbj, hne]
  have hgo : (getObj b).run C.P w = .ok (.mapIter (some (cx.bm id)) since seen.toArray st) w := by simp [getObj, Sem.run, hb]
  have hback : seen.toArray.back? = some n := by simpa using hl
  refine ⟨.tuple #[ms[i].key, ms[i].val], ?_, ?_⟩
  · simp only [Instr.entry, Sem.run_bind, Sem.run_pure, Result.andThen_ok, hgo, hback, MapKept.run_getObj_map c3, hc]
    rw [if_neg (by simp)]
    simp only [hfind, Sem.run_pure]
  · refine .tup _ [ms[i].key, ms[i].val] rfl (fun j x u hx hu => ?_)
    match j, hx, hu with
    | 0, hx, hu => simp at hx hu; subst hx; subst hu; exact .d _ _ r1
    | 1, hx, hu => simp at hx hu; subst hx; subst hu; exact r2

end
end Go.Ev


namespace Go.Ev
noncomputable section
set_option linter.unusedVariables false
set_option linter.unusedSimpArgs false

/-- What an operation's answer says of the machine. -/
def OpOk (R : ObjR) (C : Cfg) (cx : Cx) (S : St) (w : World) (σ : Operand → Value) (o : Oper) : Nxt → Prop
  | .val v S' => ∃ cx' w' u, (execOp σ o).run C.P w = .ok (.value u) w' ∧ SRel R cx' S' w' ∧ Ext cx S w cx' S' w' ∧ ARel cx' S' w' v u
  | .skip S' => ∃ cx' w', (execOp σ o).run C.P w = .ok .skip w' ∧ SRel R cx' S' w' ∧ Ext cx S w cx' S' w'
  | .call f args => ∃ us : List Value, us.length = args.length ∧ (∀ (i : Nat) (x : AV) (v : Value), args[i]? = some x → us[i]? = some v → ARel cx S w x v) ∧
      ∀ fn, C.P.funcs[f]? = some fn → fn.body.isSome = true → fn.name ≠ "runtime.NumGoroutine" → (execOp σ o).run C.P w = .ok (.enter f us.toArray) w
  | .panic _ => False

theorem exV {P : Program} {w w' : World} {s : Sem Value} {u : Value} (h : s.run P w = .ok u w') : (do pure (.value (← s)) : Sem Next).run P w = .ok (.value u) w' := by
  rw [Sem.run_bind, h]; rfl
theorem exU {P : Program} {w w' : World} {s : Sem Unit} (h : s.run P w = .ok () w') : (do s; pure .skip : Sem Next).run P w = .ok .skip w' := by
  rw [Sem.run_bind, h]; rfl

section
variable {R : ObjR} {C : Cfg} {cx : Cx} {S : St} {w : World} {σ : Operand → Value} {o : Oper}

theorem OpOk.pure {v : AV} {u : Value} (hS : SRel R cx S w) (h : (execOp σ o).run C.P w = .ok (.value u) w) (hv : ARel cx S w v u) : OpOk R C cx S w σ o (.val v S) :=
  ⟨cx, w, u, h, hS, Ext.refl w hS.wf, hv⟩

theorem src_sound {x : AV} {ys : List D} {u : Value} {sz : Nat} (hd : dataOf x = some ys) (hx : ARel cx S w x u) (hs : sizes sz ys = true) :
    (Builtin.lenOf u).run C.P w = .ok ys.length w ∧ ∃ fs, (∀ w', w'.heap = w.heap → (Builtin.firstCells sz ys.length u).run C.P w' = .ok fs.toArray w') ∧ Flat w cx.fr sz ys fs := by
  obtain ⟨tight, hr⟩ := dataSl hd hx
  obtain ⟨a, cap, rfl, _⟩ := slI hr
  refine ⟨rfl, ?_⟩
  obtain ⟨fs, f1, f2, _⟩ := first_sound (P := C.P) hr hs
  refine ⟨fs, fun w' hw => ?_, f2⟩
  have hm : DRel w' cx.fr (.sl ys tight) (.slice a ys.length cap) := hr.mono (fun b o v h1 h2 => ⟨by simp only [World.cell?] at h2 ⊢; rw [hw]; exact h2, h1⟩)
  obtain ⟨gs, g1, g2, g3⟩ := first_sound (P := C.P) hm hs
  rw [g1]
  congr 2
  -- both are the same cells
  cases a with
  | none =>
    have h0 : ys = [] := by
      obtain ⟨a', cap', hv, _, _, hm⟩ := slI hr
      simp only [Value.slice.injEq] at hv
      by_cases q : ys = []
      · exact q
      · obtain ⟨b, off, sz', vs, e, _⟩ := hm q
        rw [← hv.1] at e; cases e
    subst h0
    have e1 : fs = [] := by have := f2.len; simpa using this
    have e2 : gs = [] := by have := g2.len; simpa using this
    rw [e1, e2]
  | some ad =>
    have hrun : (loadCells ad (ys.length * sz)).run C.P w = .ok fs.toArray w := f1
    have hrun' : (loadCells ad (ys.length * sz)).run C.P w' = .ok gs.toArray w' := g1
    by_cases q : ys = []
    · subst q
      have e1 : fs = [] := by have := f2.len; simpa using this
      have e2 : gs = [] := by have := g2.len; simpa using this
      rw [e1, e2]
    · obtain ⟨a', cap', hv, _, _, hm⟩ := slI hr
      obtain ⟨b, off, sz', vs, e, _⟩ := hm q
      simp only [Value.slice.injEq] at hv
      rw [← hv.1] at e
      simp only [Option.some.injEq] at e; subst e
      obtain ⟨fs', f1', f2', f3'⟩ := first_sound (P := C.P) hr hs
      rw [f1] at f1'
      simp only [Result.ok.injEq, and_true] at f1'
      have hff : fs = fs' := by simpa using f1'
      subst hff
      apply List.ext_getElem?
      intro i
      by_cases hi : i < gs.length
      · have hg := List.getElem?_eq_getElem hi
        have hi' : i < fs.length := by rw [f2.len, ← g2.len]; exact hi
        have hf := List.getElem?_eq_getElem hi'
        have c1 := g3 b off _ _ rfl i _ hg
        have c2 := f3' b off _ _ rfl i _ hf
        simp only [World.cell?] at c1 c2
        rw [hw] at c1
        rw [c2] at c1
        rw [hg, hf]; simpa using c1.symm
      · rw [List.getElem?_eq_none (by omega), List.getElem?_eq_none (by rw [f2.len, ← g2.len]; omega)]

theorem append_sound (hR : ObjOk R) (hS : SRel R cx S w) {t t2 e ty : Nat} {x r : AV} {ys : List D} {S' : St} {v u : Value} (h : opAppend C e S x ys = some (r, S')) (he : elemSl C.P t = some e) (h2 : okSrc C t2 = true) (hx : ARel cx S w x v)
    (hu : (Builtin.lenOf u).run C.P w = .ok ys.length w) (hsrc : sizes (szOf C.P e) ys = true → ∃ fs, (∀ w', w'.heap = w.heap → (Builtin.firstCells (szOf C.P e) ys.length u).run C.P w' = .ok fs.toArray w') ∧ Flat w cx.fr (szOf C.P e) ys fs)
    (h0 : ys = [] → ∀ sz, (Builtin.firstCells sz 0 u).run C.P w = .ok #[] w) (hi : (C.P.info? e).isSome = true) :
    ∃ cx' w' z, (Builtin.append_ #[t, t2] ty #[v, u]).run C.P w = .ok z w' ∧ SRel R cx' S' w' ∧ Ext cx S w cx' S' w' ∧ ARel cx' S' w' r z := by
  obtain ⟨ie, hi⟩ := Option.isSome_iff_exists.1 hi
  have nothing : ∀ {xs : List D} {tight : Bool}, DRel w cx.fr (.sl xs tight) v → ys.length = 0 → (Builtin.append_ #[t, t2] ty #[v, u]).run C.P w = .ok v w := by
    intro xs tight hd hy
    obtain ⟨a, cap, rfl, hcap, _⟩ := slI hd
    have hy' : ys = [] := List.eq_nil_of_length_eq_zero hy
    subst hy'
    have := run_append_fits (w := w) (ty := ty) (sLen := xs.length) (sCap := cap) (n := 0) (base := a) (u := u) (elemSl_some he) hi h2 hu (by omega) (new := #[]) (h0 rfl _)
    rw [this]
    cases a with
    | none => rfl
    | some ad => simp [storeCells]
  unfold opAppend at h
  split at h
  · by_cases hy : ys.length = 0
    · rw [if_pos hy, if_pos (by simp [hi])] at h
      simp only [Option.some.injEq, Prod.mk.injEq] at h
      obtain ⟨rfl, rfl⟩ := h
      exact ⟨cx, w, v, nothing (nilsSl hx.dd) hy, hS, Ext.refl w hS.wf, hx⟩
    · rw [if_neg hy] at h
      split at h
      · rename_i hc
        obtain ⟨c1, c2, c3, c4, c6⟩ := hc
        simp only [Option.some.injEq, Prod.mk.injEq] at h
        obtain ⟨rfl, rfl⟩ := h
        obtain ⟨fs, s1, s2⟩ := hsrc c4
        have := append_new hR hS (ty := ty) (xs := []) he h2 (nilsSl hx.dd) hu s1 s2 hy (by simpa using c1) c2 c3 rfl c6
        simpa using this
      · cases h
  · rename_i xs tight
    by_cases hy : ys.length = 0
    · rw [if_pos hy, if_pos (by simp [hi])] at h
      simp only [Option.some.injEq, Prod.mk.injEq] at h
      obtain ⟨rfl, rfl⟩ := h
      exact ⟨cx, w, v, nothing hx.dd hy, hS, Ext.refl w hS.wf, hx⟩
    · rw [if_neg hy] at h
      split at h
      · rename_i hc
        obtain ⟨c1, c2, c3, c4, c5, c6⟩ := hc
        split at h
        · rename_i ht
          subst ht
          simp only [Option.some.injEq, Prod.mk.injEq] at h
          obtain ⟨rfl, rfl⟩ := h
          obtain ⟨fs, s1, s2⟩ := hsrc c4
          exact append_new hR hS he h2 hx.dd hu s1 s2 hy c1 c2 c3 c5 c6
        · cases h
      · cases h
  · rename_i xs tok
    by_cases hy : ys.length = 0
    · rw [if_pos hy, if_pos (by simp [hi])] at h
      simp only [Option.some.injEq, Prod.mk.injEq] at h
      obtain ⟨rfl, rfl⟩ := h
      refine ⟨cx, w, v, ?_, hS, Ext.refl w hS.wf, hx⟩
      cases hx with
      | tsl _ _ b off cap hn hd hp => exact nothing hd hy
    · rw [if_neg hy] at h
      split at h
      · rename_i hc
        obtain ⟨c1, c2, c3, c4, c5, c6⟩ := hc
        split at h
        · rename_i en hT
          split at h
          · rename_i hen
            obtain ⟨rfl, hpos⟩ := hen
            simp only [Option.some.injEq, Prod.mk.injEq] at h
            obtain ⟨rfl, rfl⟩ := h
            obtain ⟨fs, s1, s2⟩ := hsrc c4
            exact append_tok hR hS he h2 hx (by intro q; subst q; simp at hpos) hT hu s1 s2 hy c1 c2 c3 c5 c6
          · cases h
        · cases h
      · cases h
  · cases h

theorem append_args {A : Array Nat} {V : Array Value} {t t2 ty : Nat} {v u : Value} (h1 : A[0]? = some t) (h2 : A[1]? = some t2) (h3 : V[0]? = some v) (h4 : V[1]? = some u) :
    Builtin.append_ A ty V = Builtin.append_ #[t, t2] ty #[v, u] := by
  unfold Builtin.append_
  simp only [h1, h2, h3, h4, List.getElem?_toArray, List.getElem?_cons_zero, List.getElem?_cons_succ]

theorem len_args {A : Array Nat} {V : Array Value} {t ty : Nat} {v : Value} (h1 : A[0]? = some t) (h3 : V[0]? = some v) : Builtin.len_ A ty V = Builtin.len_ #[t] ty #[v] := by
  unfold Builtin.len_
  simp only [h1, h3, List.getElem?_toArray, List.getElem?_cons_zero]

theorem delete_args {A : Array Nat} {V : Array Value} {t ty : Nat} {v u : Value} (h1 : A[0]? = some t) (h3 : V[0]? = some v) (h4 : V[1]? = some u) : Builtin.delete_ A ty V = Builtin.delete_ #[t] ty #[v, u] := by
  unfold Builtin.delete_
  simp only [h1, h3, h4, List.getElem?_toArray, List.getElem?_cons_zero, List.getElem?_cons_succ]

theorem copy_args {A : Array Nat} {V : Array Value} {t t2 ty : Nat} {v u : Value} (h1 : A[0]? = some t) (h3 : V[0]? = some v) (h4 : V[1]? = some u) : Builtin.copy_ A ty V = Builtin.copy_ #[t, t2] ty #[v, u] := by
  unfold Builtin.copy_
  simp only [h1, h3, h4, List.getElem?_toArray, List.getElem?_cons_zero, List.getElem?_cons_succ]

theorem clear_args {A : Array Nat} {V : Array Value} {t ty : Nat} {v : Value} (h1 : A[0]? = some t) (h3 : V[0]? = some v) : Builtin.clear_ A ty V = Builtin.clear_ #[t] ty #[v] := by
  unfold Builtin.clear_
  simp only [h1, h3, List.getElem?_toArray, List.getElem?_cons_zero]

theorem args_sound {ρ : Operand → Option AV} (hρ : ρRel cx S w ρ σ) {as : Array Operand} {args : List AV} (h : mapO ρ as.toList = some args) :
    (as.map σ).toList.length = args.length ∧ ∀ (i : Nat) (x : AV) (v : Value), args[i]? = some x → (as.map σ).toList[i]? = some v → ARel cx S w x v := by
  obtain ⟨h1, h2⟩ := mapO_spec h
  refine ⟨by simp [h1], fun i x v hx hv => ?_⟩
  simp only [Array.toList_map, List.getElem?_map, Option.map_eq_some_iff] at hv
  obtain ⟨q, hq, rfl⟩ := hv
  exact hρ _ _ (h2 i q x hq hx)

theorem zeroOk_info {e : Nat} (h : zeroOk C e = true) : (C.P.info? e).isSome = true := by
  obtain ⟨i, z, hi, _⟩ := zeroOk_some h; simp [hi]

theorem append_info {e : Nat} {x : AV} {ys : List D} {r : AV × St} (h : opAppend C e S x ys = some r) : (C.P.info? e).isSome = true := by
  unfold opAppend at h
  split at h
  · split at h
    · split at h
      · assumption
      · cases h
    · split at h
      · rename_i hc; exact zeroOk_info hc.2.2.2.2
      · cases h
  · split at h
    · split at h
      · assumption
      · cases h
    · split at h
      · rename_i hc; exact zeroOk_info hc.2.2.2.2.2
      · cases h
  · split at h
    · split at h
      · assumption
      · cases h
    · split at h
      · rename_i hc; exact zeroOk_info hc.2.2.2.2.2
      · cases h
  · cases h

/-- 'append': the two kinds of what is put behind. -/
theorem builtin_append_sound (hR : ObjOk R) (hS : SRel R cx S w) {A : Array Nat} {V : Array Value} {t t2 e ty : Nat} {x y r : AV} {ys : List D} {S' : St} {v u : Value} (h : opAppend C e S x ys = some (r, S')) (he : elemSl C.P t = some e) (hei : (C.P.info? e).isSome = true) (h2 : okSrc C t2 = true)
    (hx : ARel cx S w x v) (hy : ARel cx S w y u) (hk : dataOf y = some ys ∨ ∃ s, y = .d (.str s) ∧ ys = s.map fun c => .int .u8 c.toNat)
    (a1 : A[0]? = some t) (a2 : A[1]? = some t2) (a3 : V[0]? = some v) (a4 : V[1]? = some u) :
    ∃ cx' w' z, (Builtin.append_ A ty V).run C.P w = .ok z w' ∧ SRel R cx' S' w' ∧ Ext cx S w cx' S' w' ∧ ARel cx' S' w' r z := by
  rw [append_args a1 a2 a3 a4]
  rcases hk with hk | ⟨s, rfl, rfl⟩
  · have hlen : (Builtin.lenOf u).run C.P w = .ok ys.length w := by
      obtain ⟨tight, hr⟩ := dataSl hk hy
      obtain ⟨a, cap, rfl, _⟩ := slI hr
      rfl
    refine append_sound hR hS h he h2 hx hlen (fun hs => (src_sound hk hy hs).2) (fun h0 sz => ?_) hei
    subst h0
    obtain ⟨tight, hr⟩ := dataSl hk hy
    obtain ⟨a, cap, rfl, _⟩ := slI hr
    cases a <;> simp [Builtin.firstCells, loadCells, loadCellsFrom]
  · obtain ⟨b, rfl, rfl⟩ := hy.str
    have hbl : b.data.toList.length = b.size := Array.length_toList
    refine append_sound hR hS h he h2 hx ?_ (fun hs => ?_) (fun h0 sz => ?_) hei
    · simp only [Builtin.lenOf, List.length_map, Sem.run_pure]; rw [hbl]
    · obtain ⟨fs, f1, f2⟩ := first_str (P := C.P) (w := w) (fr := cx.fr) b
      by_cases hne : b.data.toList = []
      · refine ⟨[], fun w' _ => ?_, by simp [hne], by simp, by simp [hne], by simp [hne]⟩
        simp only [hne, List.map_nil, List.length_nil, Builtin.firstCells, Sem.run_pure]
        congr 1
        apply Array.ext'
        simp [ByteArray.data_extract]
      · have hsz : szOf C.P e = 1 := by
          cases hb : b.data.toList with
          | nil => exact absurd hb hne
          | cons c l => rw [hb] at hs; simp only [List.map_cons, sizes, Bool.and_eq_true] at hs; have := Nat.eq_of_beq_eq_true hs.1; simpa [D.cells] using this.symm
        rw [hsz]
        refine ⟨fs, fun w' _ => ?_, f2⟩
        have : (Builtin.firstCells 1 b.size (.string b)).run C.P w' = .ok fs.toArray w' := by
          simp only [Builtin.firstCells, Sem.run_pure, Result.ok.injEq, and_true] at f1 ⊢
          exact f1
        simp only [List.length_map, hbl]
        exact this
    · simp only [Builtin.firstCells, Sem.run_pure]
      congr 1
      apply Array.ext'
      simp [ByteArray.data_extract]

theorem dOpt_sound {ρ : Operand → Option AV} (hρ : ρRel cx S w ρ σ) {x : Option Operand} {y : Option D} (h : dOpt ρ x = some y) : optRel cx w y (x.map σ) := by
  unfold dOpt at h
  split at h
  · simp only [Option.some.injEq] at h; subst h; trivial
  · rename_i o'
    split at h
    · rename_i z hz
      simp only [Option.some.injEq] at h; subst h
      exact (hρ _ _ hz).dd
    · cases h

theorem builtin_sound (hR : ObjOk R) (hS : SRel R cx S w) {b : Builtin} {A : Array Nat} {args : List AV} {us : List Value} {ty : Nat} {cs : Array Bool} {nx : Nxt} (h : builtinAV C b A S args = some nx)
    (hl : us.length = args.length) (hr : ∀ (i : Nat) (x : AV) (v : Value), args[i]? = some x → us[i]? = some v → ARel cx S w x v) :
    ∃ v S' cx' w' u, nx = .val v S' ∧ (Go.builtin b A ty cs us.toArray).run C.P w = .ok (.value u) w' ∧ SRel R cx' S' w' ∧ Ext cx S w cx' S' w' ∧ ARel cx' S' w' v u := by
  have hrefl := Ext.refl (cx := cx) w hS.wf
  unfold builtinAV at h
  split at h
  · rename_i x
    split at h
    · rename_i t ht
      split at h
      · rename_i hlt
        simp only [Option.map_eq_some_iff] at h
        obtain ⟨n, hn, rfl⟩ := h
        match us, hl with
        | [u], _ =>
          have := len_sound hS (ty := ty) hlt hn (hr 0 x u rfl rfl)
          refine ⟨_, _, cx, w, .int .i64 n, rfl, ?_, hS, hrefl, .of_int _ _⟩
          simp only [Go.builtin]
          rw [len_args (v := u) ht rfl]
          exact exV this
      · cases h
    · cases h
  · rename_i x y
    split at h
    · rename_i t ht
      cases ht2 : A[1]? with
      | none => simp [ht2] at h
      | some t2 =>
        simp only [ht2] at h
        by_cases hsrc : okSrc C t2 = true
        · rw [if_pos hsrc] at h
          match us, hl with
          | [u1, u2], _ =>
            have key : ∀ {e : Nat} {ys : List D} {r : AV × St}, elemSl C.P t = some e → opAppend C e S x ys = some r → (dataOf y = some ys ∨ ∃ s, y = .d (.str s) ∧ ys = s.map fun c => .int .u8 c.toNat) → nx = .val r.1 r.2 →
                ∃ v S' cx' w' u, nx = .val v S' ∧ (Go.builtin .append A ty cs [u1, u2].toArray).run C.P w = .ok (.value u) w' ∧ SRel R cx' S' w' ∧ Ext cx S w cx' S' w' ∧ ARel cx' S' w' v u := by
              intro e ys r he hop hk hnx
              by_cases hei : (C.P.info? e).isSome = true
              · obtain ⟨cx', w', z, k1, k2, k3, k4⟩ := builtin_append_sound (ty := ty) (A := A) (V := [u1, u2].toArray) hR hS (r := r.1) (S' := r.2) hop he hei hsrc (hr 0 x u1 rfl rfl) (hr 1 y u2 rfl rfl) hk ht ht2 rfl rfl
                exact ⟨r.1, r.2, cx', w', z, hnx, exV k1, k2, k3, k4⟩
              · -- only where nothing is put behind
                exfalso
                exact hei (append_info hop)
            have e1 : Builtin.append_ A ty [u1, u2].toArray = Builtin.append_ #[t, t2] ty #[u1, u2] := append_args ht ht2 rfl rfl
            have fin : ∀ {r : AV × St}, nx = .val r.1 r.2 → (∃ cx' w' z, (Builtin.append_ #[t, t2] ty #[u1, u2]).run C.P w = .ok z w' ∧ SRel R cx' r.2 w' ∧ Ext cx S w cx' r.2 w' ∧ ARel cx' r.2 w' r.1 z) →
                ∃ v S' cx' w' u, nx = .val v S' ∧ (Go.builtin .append A ty cs [u1, u2].toArray).run C.P w = .ok (.value u) w' ∧ SRel R cx' S' w' ∧ Ext cx S w cx' S' w' ∧ ARel cx' S' w' v u := by
              intro r hnx ⟨cx', w', z, k1, k2, k3, k4⟩
              rw [← e1] at k1
              exact ⟨r.1, r.2, cx', w', z, hnx, exV k1, k2, k3, k4⟩
            split at h
            · rename_i e he
              split at h
              · rename_i id g off len lim sz
                simp only [Option.map_eq_some_iff] at h
                obtain ⟨r, hop, rfl⟩ := h
                exact fin rfl (appendRow_sound hR hS hop he hsrc (hr 0 _ u1 rfl rfl) (hr 1 y u2 rfl rfl))
              · cases hrow : C.rowT t with
                | true =>
                  simp only [hrow, cond_true] at h
                  split at h
                  · simp only [Option.map_eq_some_iff] at h
                    obtain ⟨r, hop, rfl⟩ := h
                    have hn := nilsI (hr 0 _ u1 rfl rfl).dd
                    subst hn
                    exact fin rfl (appendFirst_sound hR hS (xs := []) (cap := 0) hop he hsrc (fun sz _ => ⟨[], fun w' _ => by simp [Builtin.firstCells], ⟨by simp, by simp, by simp, by simp⟩⟩) rfl (hr 0 _ _ rfl rfl) (hr 1 y u2 rfl rfl))
                  · rename_i xs
                    simp only [Option.map_eq_some_iff] at h
                    obtain ⟨r, hop, rfl⟩ := h
                    have hd := (hr 0 _ u1 rfl rfl).dd
                    obtain ⟨a, cap, rfl, _, hcap, _⟩ := slI hd
                    exact fin rfl (appendFirst_sound hR hS hop he hsrc (fun sz hs => first_heap hd hs) (hcap rfl) (hr 0 _ _ rfl rfl) (hr 1 y u2 rfl rfl))
                  · cases h
                | false =>
                  simp only [hrow, cond_false] at h
                  split at h
                  · rename_i ys hd
                    simp only [Option.map_eq_some_iff] at h
                    obtain ⟨r, hop, rfl⟩ := h
                    exact key he hop (.inl hd) rfl
                  · rename_i hd
                    split at h
                    · simp only [Option.map_eq_some_iff] at h
                      obtain ⟨r, hop, rfl⟩ := h
                      exact key he hop (.inr ⟨_, rfl, rfl⟩) rfl
                    · cases h
            · cases h
        · rw [if_neg hsrc] at h; cases h
    · cases h
  · rename_i x y
    split at h
    · rename_i t ht
      split at h
      · rename_i e he
        match us, hl with
        | [u1, u2], _ =>
          obtain ⟨n, S', cx', w', rfl, k1, k2, k3⟩ := copy_sound (t2 := 0) (ty := ty) hR hS h he (hr 0 x u1 rfl rfl) (hr 1 y u2 rfl rfl)
          refine ⟨_, S', cx', w', .int .i64 n, rfl, ?_, k2, k3, .of_int _ _⟩
          simp only [Go.builtin]
          rw [copy_args (t2 := 0) (v := u1) (u := u2) ht rfl rfl]
          exact exV k1
      · cases h
    · cases h
  · rename_i x
    split at h
    · rename_i t ht
      split at h
      · rename_i e he
        match us, hl with
        | [u], _ =>
          obtain ⟨S', cx', w', rfl, k1, k2, k3⟩ := clear_sound (ty := ty) hR hS h he (hr 0 x u rfl rfl)
          refine ⟨_, S', cx', w', .tuple #[], rfl, ?_, k2, k3, .tup [] [] rfl (by simp)⟩
          simp only [Go.builtin]
          rw [clear_args (v := u) ht rfl]
          exact exV k1
      · cases h
    · cases h
  · rename_i m k
    split at h
    · rename_i t ht
      simp only [Option.map_eq_some_iff] at h
      obtain ⟨S', hd, rfl⟩ := h
      match us, hl with
      | [u1, u2], _ =>
        obtain ⟨w', k1, k2, k3⟩ := delete_sound (ty := ty) hR hS hd (hr 0 m u1 rfl rfl) (hr 1 _ u2 rfl rfl).dd
        refine ⟨_, S', cx, w', .tuple #[], rfl, ?_, k2, k3, .tup [] [] rfl (by simp)⟩
        simp only [Go.builtin]
        rw [delete_args (v := u1) (u := u2) ht rfl rfl]
        exact exV k1
    · cases h
  · simp only [Option.map_eq_some_iff] at h
    obtain ⟨r, hm, rfl⟩ := h
    obtain ⟨v, rest, k, z, e1, e2, e3⟩ := minmax_sound (P := C.P) (cx := cx) (S := S) (w := w) (g := Builtin.min2) (fun k a b => by simp [Builtin.min2]) _ args r us rfl hm hl hr
    subst e1; subst e2
    refine ⟨_, _, cx, w, .int k z, rfl, ?_, hS, hrefl, .of_int _ _⟩
    exact exV (by simpa [Builtin.min_] using e3)
  · simp only [Option.map_eq_some_iff] at h
    obtain ⟨r, hm, rfl⟩ := h
    obtain ⟨v, rest, k, z, e1, e2, e3⟩ := minmax_sound (P := C.P) (cx := cx) (S := S) (w := w) (g := Builtin.max2) (fun k a b => by simp [Builtin.max2]) _ args r us rfl hm hl hr
    subst e1; subst e2
    refine ⟨_, _, cx, w, .int k z, rfl, ?_, hS, hrefl, .of_int _ _⟩
    exact exV (by simpa [Builtin.max_] using e3)
  · cases h

end
end
end Go.Ev


namespace Go.Ev
noncomputable section
set_option linter.unusedVariables false
set_option linter.unusedSimpArgs false

section
variable {R : ObjR} {C : Cfg} {cx : Cx} {S : St} {w : World} {σ : Operand → Value}

theorem oper_sound (hRC : ObjOkC R C) (hS : SRel R cx S w) {ρ : Operand → Option AV} (hρ : ρRel cx S w ρ σ) (o : Oper) {nx : Nxt} (h : oper C ρ S o.op = some nx) : OpOk R C cx S w σ o nx := by
  have hR := hRC.toObjOk
  obtain ⟨dst, op, type, pos, after, guard⟩ := o
  simp only at h
  cases op <;> simp only [oper] at h <;> try (cases h; done)
  case move x =>
    simp only [Option.map_eq_some_iff] at h
    obtain ⟨v, hv, rfl⟩ := h
    exact OpOk.pure hS rfl (hρ _ _ hv)
  case assign x =>
    simp only [Option.map_eq_some_iff] at h
    obtain ⟨v, hv, rfl⟩ := h
    exact OpOk.pure hS rfl (hρ _ _ hv)
  case pick c a b =>
    split at h
    · rename_i t hc
      simp only [Option.map_eq_some_iff] at h
      obtain ⟨v, hv, rfl⟩ := h
      have hb := (hρ _ _ hc).bool
      refine OpOk.pure (u := σ (if t then a else b)) hS ?_ (hρ _ _ hv)
      simp only [execOp, hb, asBool, Sem.run_bind, Sem.run_pure, Result.andThen_ok]
      cases t <;> rfl
    · cases h
  case alloc t =>
    cases hhas : S.H.has S.nx with
    | true => simp [hhas] at h
    | false =>
    simp only [hhas, cond_false] at h
    split at h
    · rename_i kk xx hobj
      simp only [Option.some.injEq] at h
      subst h
      obtain ⟨zv, r1, r2, r3⟩ := hRC.new t kk xx hobj
      obtain ⟨cx', k1, k2, k3⟩ := newobj_sound hR hS kk xx (.cells zv.cells t) r3 (r2 w)
      refine ⟨cx', _, _, ?_, k1, k2, k3⟩
      refine exV ?_
      simp only [Instr.alloc, Sem.run_bind, r1, Result.andThen_ok, newVar, newRow, run_newObj, Sem.run_pure]
      rfl
    simp only [Option.map_eq_some_iff] at h
    obtain ⟨z, hz, rfl⟩ := h
    obtain ⟨zv, r1, r2⟩ := zero_sound hz w cx.fr
    have hp := plainAV_cells (cx := cx) (S := S) (.d z zv r2) rfl
    obtain ⟨cx', k1, k2, k3⟩ := new_sound hR hS (AV.d z).cells zv.cells.toList t hp.1 (fun i x v hx hv => ⟨hp.2.2 i x v hx hv, hp.2.1 v (List.mem_of_getElem? hv)⟩)
    refine ⟨cx', _, _, ?_, k1, k2, k3⟩
    refine exV ?_
    simp only [Instr.alloc, Sem.run_bind, r1, Result.andThen_ok, newVar, newRow, run_newObj, Sem.run_pure]
    rfl
  case box t x =>
    split at h
    · rename_i v hv
      split at h
      · rename_i hpl
        cases hhas : S.H.has S.nx with
        | true => simp [hhas] at h
        | false =>
        simp only [hhas, cond_false, Option.some.injEq] at h
        subst h
        have hp := plainAV_cells (hρ _ _ hv) hpl
        obtain ⟨cx', k1, k2, k3⟩ := new_sound hR hS v.cells (σ x).cells.toList t hp.1 (fun i x v hx hv => ⟨hp.2.2 i x v hx hv, hp.2.1 v (List.mem_of_getElem? hv)⟩)
        refine ⟨cx', _, _, ?_, k1, k2, k3⟩
        refine exV ?_
        simp only [Instr.box, Sem.run_bind, Result.andThen_ok, newVar, newRow, run_newObj, Sem.run_pure]
        rfl
      · cases h
    · cases h
  case build t parts =>
    split at h
    · rename_i z ps hz hps
      split at h
      · rename_i pl hpl
        simp only [Option.map_eq_some_iff] at h
        obtain ⟨cs, hcs, rfl⟩ := h
        obtain ⟨u, b1, b2⟩ := build_sound hρ hz hps hpl hcs
        exact OpOk.pure hS (exV b1) b2
      · cases h
    · cases h
  case buildSlice t len parts =>
   cases hrw : asRow C t len with
   | true =>
    rw [hrw] at h
    simp only [cond_true] at h
    split at h
    · rename_i ps hps
      obtain ⟨v, S', rfl, cx', u, w', b1, b2, b3, b4⟩ := buildRow_sound hR hS hρ hps h
      exact ⟨cx', w', u, exV b1, b2, b3, b4⟩
    · cases h
   | false =>
    rw [hrw] at h
    simp only [cond_false] at h
    split at h
    · rename_i e ps he hps
      split at h
      · rename_i hsm
        split at h
        · rename_i z hz
          split at h
          · rename_i cs hcs
            split at h
            · rename_i ag hag
              simp only [Option.map_eq_some_iff] at h
              obtain ⟨xs, hxs, rfl⟩ := h
              obtain ⟨u, w', b1, b2, b3, b4⟩ := buildSlice_sound hR hS hρ he hps hsm hz hcs hag hxs
              exact ⟨cx, w', u, exV b1, b2, b3, b4⟩
            · cases h
          · cases h
        · cases h
      · cases h
    · cases h
  case load t a =>
    split at h
    · rename_i v hv
      simp only [Option.map_eq_some_iff] at h
      obtain ⟨r, hr, rfl⟩ := h
      obtain ⟨u, b1, b2⟩ := load_sound (C := C) hS hr (hρ _ _ hv)
      exact OpOk.pure hS (exV b1) b2
    · cases h
  case store t a x =>
    split at h
    · rename_i p v hp hv
      simp only [Option.map_eq_some_iff] at h
      obtain ⟨S', hst, rfl⟩ := h
      obtain ⟨w', b1, b2, b3⟩ := store_sound hR hS hst (hρ _ _ hp) (hρ _ _ hv)
      exact ⟨cx, w', exU b1, b2, b3⟩
    · cases h
  case nilCheck x =>
    split at h
    · rename_i i g o' hx
      simp only [Option.some.injEq] at h; subst h
      have := hρ _ _ hx
      refine OpOk.pure (u := σ x) hS ?_ this
      generalize hq : σ x = v at this
      cases this
      simp [execOp, hq]
    · rename_i y o' hx
      simp only [Option.some.injEq] at h; subst h
      have := hρ _ _ hx
      refine OpOk.pure (u := σ x) hS ?_ this
      generalize hq : σ x = v at this
      cases this
      simp [execOp, hq]
    · rename_i g cs hx
      simp only [Option.some.injEq] at h; subst h
      have := hρ _ _ hx
      refine OpOk.pure (u := σ x) hS ?_ this
      generalize hq : σ x = v at this
      cases this
      simp [execOp, hq]
    · cases h
  case binOp op t x y yt =>
    split at h
    · rename_i a b ha hb
      simp only [Option.map_eq_some_iff] at h
      obtain ⟨r, hr, rfl⟩ := h
      obtain ⟨u, b1, b2⟩ := binD_sound hr (hρ _ _ ha) (hρ _ _ hb) x y
      exact OpOk.pure hS (exV b1) b2
    · cases h
  case unOp op t x =>
    split at h
    · rename_i b hx
      simp only [Option.some.injEq] at h; subst h
      have := (hρ _ _ hx).bool
      refine OpOk.pure (u := .bool (!b)) hS ?_ (.of_bool _)
      simp [execOp, this, Op.unary]
    · rename_i k n hx
      simp only [Option.some.injEq] at h; subst h
      have := (hρ _ _ hx).int
      refine OpOk.pure (u := .int k (k.wrap (0 - n))) hS ?_ (.of_int _ _)
      simp [execOp, this, Op.unary, Op.intArith]
    · cases h
  case convert src dst' x =>
    split at h
    · rename_i v hv
      simp only [Option.map_eq_some_iff] at h
      obtain ⟨r, hr, rfl⟩ := h
      obtain ⟨u, b1, b2⟩ := conv_sound hr (hρ _ _ hv)
      exact OpOk.pure hS (exV b1) b2
    · cases h
  case makeFunc fn first caps =>
    split at h
    · rename_i g hf
      simp only [Option.map_eq_some_iff] at h
      obtain ⟨cs, hcs, rfl⟩ := h
      obtain ⟨h1, h2⟩ := args_sound hρ hcs
      have hf0 : first = #[] := Array.toList_eq_nil_iff.1 hf
      subst hf0
      refine OpOk.pure (u := .func (.func g) #[] (caps.map σ)) hS (by simp [execOp, Instr.makeFunc]) ?_
      exact ARel.fn (cx := cx) (S := S) (w := w) g cs (caps.map σ).toList h1 h2
    · cases h
  case slice t x lo hi mx =>
    split at h
    · rename_i v hv
      split at h
      · rename_i l hh m hl hhi hm
        simp only [Option.map_eq_some_iff] at h
        obtain ⟨r, hr, rfl⟩ := h
        obtain ⟨u, b1, b2⟩ := slice_sound hr (hρ _ _ hv) (dOpt_sound hρ hl) (dOpt_sound hρ hhi) (dOpt_sound hρ hm)
        exact OpOk.pure hS (exV b1) b2
      · cases h
    · cases h
  case fieldAddr s x fld =>
    split at h
    · rename_i id g off fo ft hx hf
      split at h
      · cases h
      · rename_i hz
        simp only [Option.some.injEq] at h; subst h
        obtain ⟨u, b1, b2⟩ := (fieldAddr_sound (C := C) hf hz (hρ _ _ hx)).1 _ _ _ rfl
        exact OpOk.pure hS (exV b1) b2
    · rename_i y off fo ft hx hf
      split at h
      · cases h
      · rename_i hz
        simp only [Option.some.injEq] at h; subst h
        obtain ⟨u, b1, b2⟩ := (fieldAddr_sound (C := C) hf hz (hρ _ _ hx)).2 _ _ rfl
        exact OpOk.pure hS (exV b1) b2
    · cases h
  case field t x fld =>
    split at h
    · rename_i cs fo ft hx hf
      simp only [Option.map_eq_some_iff] at h
      obtain ⟨r, hr, rfl⟩ := h
      obtain ⟨u, b1, b2⟩ := (field_sound (C := C) (r := .d r) hf).2 cs r (hρ _ _ hx) hr
      exact OpOk.pure hS (exV b1) b2
    · rename_i cs fo ft hx hf
      simp only [Option.map_eq_some_iff] at h
      obtain ⟨r, hr, rfl⟩ := h
      obtain ⟨u, b1, b2⟩ := (field_sound (C := C) (r := r) hf).1 cs (hρ _ _ hx) hr
      exact OpOk.pure hS (exV b1) b2
    · cases h
  case indexAddr t x i =>
    split at h
    · rename_i v n hv hn
      simp only [Option.map_eq_some_iff] at h
      obtain ⟨r, hr, rfl⟩ := h
      obtain ⟨u, b1, b2⟩ := indexAddr_sound hr (hρ _ _ hv) (hρ _ _ hn)
      exact OpOk.pure hS (exV b1) b2
    · cases h
  case index t x i =>
    split at h
    · rename_i s k n hx hi
      split at h
      · rename_i hc
        simp only [Bool.and_eq_true, decide_eq_true_eq] at hc
        simp only [Option.map_eq_some_iff] at h
        obtain ⟨c, hcc, rfl⟩ := h
        have hi' := (hρ _ _ hi).int
        have := index_sound (P := C.P) (k := k) (hρ _ _ hx) hc.1 hc.2 hcc
        refine OpOk.pure hS (exV ?_) (.of_int _ _)
        rw [hi']; exact this
      · cases h
    · cases h
  case makeMap t r =>
    split at h
    · rename_i kt hkt hr
      cases hhas : S.H.has S.nx with
      | true => simp [hhas] at h
      | false =>
      simp only [hhas, cond_false, Option.some.injEq] at h; subst h
      obtain ⟨cx', k1, k2, k3⟩ := newmap_sound hR hS
      refine ⟨cx', _, _, exV (u := .map (some w.heap.size)) (w' := w.alloc (.map #[] 0)) ?_, k1, k2, k3⟩
      have hu := keyT_some hkt
      cases r with
      | none => rfl
      | some o' =>
        simp only at hr
        split at hr
        · rename_i k n hq
          have hi := (hρ _ _ hq).int
          simp only [Option.map_some, Instr.makeMap, Sem.run_bind, run_und w hu, Result.andThen_ok, hi, asInt, asIntOf, Sem.run_pure]
          rfl
        · cases hr
    · cases h
  case makeSlice t l c =>
    split at h
    · rename_i lv cv hl hc
      simp only [Option.map_eq_some_iff] at h
      obtain ⟨r, hr, rfl⟩ := h
      obtain ⟨cx', w', u, b1, b2, b3, b4⟩ := make_sound hR hS hr (hρ _ _ hl).dd (hρ _ _ hc).dd
      exact ⟨cx', w', u, exV b1, b2, b3, b4⟩
    · cases h
  case range t x =>
    split at h
    · rename_i kt id ht hx
      split at h
      · rename_i M hg
        cases hhas : S.H.has S.nx with
        | true => simp [hhas] at h
        | false =>
        simp only [hhas, cond_false, Option.some.injEq] at h; subst h
        obtain ⟨cx', w', u, b1, b2, b3, b4⟩ := range_sound hR hS ht hg (hρ _ _ hx)
        exact ⟨cx', w', u, exV b1, b2, b3, b4⟩
      · cases h
    · rename_i kt ht hx
      cases hhas : S.H.has S.nx with
      | true => simp [hhas] at h
      | false =>
      simp only [hhas, cond_false, Option.some.injEq] at h; subst h
      obtain ⟨cx', w', u, b1, b2, b3, b4⟩ := range_nil_sound hR hS ht (hρ _ _ hx)
      exact ⟨cx', w', u, exV b1, b2, b3, b4⟩
    · cases h
  case entry t =>
    split at h
    · rename_i k g id since seen st hx
      split at h
      · rename_i M n c hg hl hk
        split at h
        · rename_i hc
          split at h
          · rename_i i hf
            simp only [Option.map_eq_some_iff] at h
            obtain ⟨p, hp, rfl⟩ := h
            obtain ⟨hc1, hc2⟩ := hc
            subst hc2
            obtain ⟨u, b1, b2⟩ := entry_sound2 (C := C) hS (hρ _ _ hx) hg hl hk hc1 hf hp
            exact OpOk.pure hS (exV b1) b2
          · cases h
        · cases h
      · cases h
    · cases h
  case lookup t m k ok =>
    split at h
    · rename_i mv kd hm hk
      simp only [Option.map_eq_some_iff] at h
      obtain ⟨v, hv, rfl⟩ := h
      obtain ⟨u, b1, b2⟩ := lookup_sound hS hv (hρ _ _ hm) (hρ _ _ hk).dd
      exact OpOk.pure hS (exV b1) b2
    · cases h
  case mapUpdate t m k x =>
    split at h
    · rename_i mv kd v hm hk hx
      simp only [Option.map_eq_some_iff] at h
      obtain ⟨S', hv, rfl⟩ := h
      obtain ⟨w', b1, b2, b3⟩ := update_sound hR hS hv (hρ _ _ hm) (hρ _ _ hk).dd (hρ _ _ hx)
      exact ⟨cx, w', exU b1, b2, b3⟩
    · cases h
  case insert t m k x =>
    split at h
    · rename_i mv kd v hm hk hx
      simp only [Option.map_eq_some_iff] at h
      obtain ⟨S', hv, rfl⟩ := h
      obtain ⟨w', b1, b2, b3⟩ := update_sound hR hS hv (hρ _ _ hm) (hρ _ _ hk).dd (hρ _ _ hx)
      exact ⟨cx, w', exU b1, b2, b3⟩
    · cases h
  case mapEntry t m k =>
    split at h
    · rename_i mv kd hm hk
      simp only [Option.map_eq_some_iff] at h
      obtain ⟨r, hv, rfl⟩ := h
      obtain ⟨w', u, b1, b2, b3, b4⟩ := entry_sound hR hS hv (hρ _ _ hm) (hρ _ _ hk).dd
      exact ⟨cx, w', u, exV b1, b2, b3, b4⟩
    · cases h
  case entryStore t m st x =>
    split at h
    · rename_i mv sd v hm hk hx
      simp only [Option.map_eq_some_iff] at h
      obtain ⟨S', hv, rfl⟩ := h
      obtain ⟨w', b1, b2, b3⟩ := entryStore_sound hR (C := C) (t := t) hS hv (hρ _ _ hm) (hρ _ _ hk).dd (hρ _ _ hx)
      exact ⟨cx, w', exU b1, b2, b3⟩
    · cases h
  case extract t i =>
    split at h
    · rename_i vs ht
      simp only [Option.map_eq_some_iff] at h
      obtain ⟨v, hv, rfl⟩ := h
      have hr := hρ _ _ ht
      generalize hq : σ t = u at hr
      cases hr with
      | tup _ us hl hr =>
        have hlt : i < us.length := by rw [hl]; exact (List.getElem?_eq_some_iff.1 hv).1
        have hu := List.getElem?_eq_getElem hlt
        refine OpOk.pure hS (exV (u := us[i]) ?_) (hr i v _ hv hu)
        simp [Instr.extract, hq, hlt]
    · cases h
  case call c =>
    obtain ⟨callee, cargs, argTypes⟩ := c
    simp only at h
    cases callee <;> simp only at h <;> try (cases h; done)
    case value g =>
      split at h
      · rename_i k caps args hg ha
        simp only [Option.some.injEq] at h; subst h
        obtain ⟨h1, h2⟩ := args_sound hρ ha
        have hgr := hρ _ _ hg
        generalize hq : σ g = gv at hgr
        cases hgr with
        | fn _ _ cv hl hr =>
          refine ⟨(cargs.map σ).toList ++ cv, by rw [List.length_append, List.length_append, h1, hl], fun i x v hx hv => ?_, fun fn hf hb hn => ?_⟩
          · rw [List.getElem?_append] at hx hv
            by_cases hi : i < args.length
            · rw [if_pos hi] at hx; rw [if_pos (by rw [h1]; exact hi)] at hv; exact h2 i x v hx hv
            · rw [if_neg hi] at hx; rw [if_neg (by rw [h1]; exact hi), h1] at hv; exact hr _ x v hx hv
          · have hb' : fn.body.isNone = false := by cases hq : fn.body <;> simp_all
            have hn' : (fn.name == "runtime.NumGoroutine") = false := by simpa using hn
            simp only [execOp, resolve, hq, Deferred.ofValue, Sem.run_bind, Sem.run_pure, Result.andThen_ok, invoke, callFunc, run_program, hf, hn', hb', Bool.false_eq_true, if_false]
            congr 2
            apply Array.ext'
            simp
      · cases h
    case builtin b =>
      split at h
      · rename_i args ha
        obtain ⟨h1, h2⟩ := args_sound hρ ha
        obtain ⟨v, S', cx', w', u, rfl, b1, b2, b3, b4⟩ := builtin_sound (R := R) (C := C) (ty := type) (cs := cargs.map fun | .const _ => true | _ => false) hR hS h h1 h2
        refine ⟨cx', w', u, ?_, b2, b3, b4⟩
        simp only [execOp, resolve, Sem.run_bind, Sem.run_pure, Result.andThen_ok, invoke]
        have hq : (cargs.map σ).toList.toArray = cargs.map σ := rfl
        rw [hq] at b1
        exact b1
      · cases h

end
end
end Go.Ev


namespace Go.Ev
noncomputable section
set_option linter.unusedVariables false
set_option linter.unusedSimpArgs false

/-- The slots. -/
structure ERel (cx : Cx) (S : St) (w : World) (nt : Nat) (e : Env) (a : Act) : Prop where
  size : nt ≤ a.tmps.size
  rel : ∀ t x, AL.get e t = some x → ∃ v, a.tmps[t]? = some v ∧ ARel cx S w x v

theorem ERel.mono {cx cx' : Cx} {S S' : St} {w w' : World} {nt : Nat} {e : Env} {a : Act} (h : ERel cx S w nt e a) (x : Ext cx S w cx' S' w') : ERel cx' S' w' nt e a :=
  ⟨h.size, fun t y hy => let ⟨v, h1, h2⟩ := h.rel t y hy; ⟨v, h1, h2.mono x⟩⟩

theorem ERel.put {cx : Cx} {S : St} {w : World} {nt : Nat} {e e' : Env} {a : Act} {dst : Option Nat} {x : AV} {v : Value} (h : ERel cx S w nt e a) (hp : Env.put nt e dst x = some e') (hx : ARel cx S w x v) : ERel cx S w nt e' (a.put dst v) := by
  unfold Env.put at hp
  split at hp
  · rename_i t
    cases hb : Nat.blt t nt with
    | false => rw [hb] at hp; cases hp
    | true =>
      rw [hb] at hp
      simp at hp; subst hp
      have hlt : t < nt := Nat.le_of_ble_eq_true hb
      refine ⟨by simp [Act.put, h.size], fun u y hy => ?_⟩
      rw [AL.get_cons] at hy
      by_cases hu : t = u
      · subst hu
        rw [if_pos rfl] at hy
        cases hy
        refine ⟨v, ?_, hx⟩
        have := h.size
        simp [Act.put, show t < a.tmps.size by omega]
      · rw [if_neg hu] at hy
        obtain ⟨z, h1, h2⟩ := h.rel u y hy
        exact ⟨z, by simpa [Act.put, Array.getElem?_setIfInBounds_ne hu] using h1, h2⟩
  · simp at hp; subst hp; exact h

theorem ERel.del {cx : Cx} {S : St} {w : World} {nt : Nat} {e : Env} {a : Act} (h : ERel cx S w nt e a) (t : Nat) (v : Value) : ERel cx S w nt (AL.del e t) (a.put (some t) v) := by
  refine ⟨by simp [Act.put, h.size], fun u y hy => ?_⟩
  rw [AL.get_del] at hy
  by_cases hu : t = u
  · rw [if_pos hu] at hy; cases hy
  · rw [if_neg hu] at hy
    obtain ⟨z, h1, h2⟩ := h.rel u y hy
    exact ⟨z, by simpa [Act.put, Array.getElem?_setIfInBounds_ne hu] using h1, h2⟩

theorem ERel.eval {cx : Cx} {S : St} {w : World} {nt : Nat} {e : Env} {a : Act} (h : ERel cx S w nt e a) : ρRel cx S w (evalO e) a.eval := by
  intro x y hy
  cases x <;> simp only [evalO] at hy
  case tmp t =>
    obtain ⟨v, h1, h2⟩ := h.rel t y hy
    simpa [Act.eval, h1] using h2
  case const v =>
    simp only [Option.map_eq_some_iff] at hy
    obtain ⟨z, hz, rfl⟩ := hy
    exact .d _ _ (ofConst_sound hz w cx.fr)
  case global g => cases hy
  case func f =>
    simp at hy; subst hy
    exact ARel.fn (cx := cx) (S := S) (w := w) f [] [] rfl (by simp)

theorem wanted_sound {cx : Cx} {S : St} {w : World} {nt : Nat} {e : Env} {a : Act} {ops : Array Oper} {o : Oper} {b : Bool} (h : ERel cx S w nt e a) (hw : wantedE ops e o = some b) : Region.wanted o (yielded ops a.tmps) = b := by
  unfold wantedE at hw
  unfold Region.wanted
  split at hw
  · rename_i hg; simp at hw; subst hw; simp [hg]
  · rename_i j want hg
    split at hw
    · rename_i oj hj
      split at hw
      · rename_i t ht
        split at hw
        · rename_i c hc
          simp at hw; subst hw
          obtain ⟨v, h1, h2⟩ := h.rel t _ hc
          have := h2.bool; subst this
          simp only [hg, yielded, hj, Option.bind_some, ht, h1]
          cases c <;> cases want <;> rfl
        · rename_i hc
          simp at hw; subst hw
          obtain ⟨v, h1, h2⟩ := h.rel t _ hc
          cases h2 with
          | tup _ vs hl _ =>
            have : vs = [] := List.eq_nil_of_length_eq_zero hl
            subst this
            simp only [hg, yielded, hj, Option.bind_some, ht, h1]
            cases want <;> rfl
        · cases hw
      · cases hw
    · cases hw

/-- How a call ends. -/
def EndOk (cx : Cx) (S : St) (w : World) (p : Option AV) (v : AV) (e : Ending) : Prop :=
  match p with
  | none => ∃ u, e = .returned u ∧ ARel cx S w v u
  | some pv => ∃ u, e = .panicked [{ v := u, recovered := false }] ∧ ARel cx S w pv u

/-- What is asked of what makes calls. -/
def HandOk (R : ObjR) (P : Program) (h : Hand) : Prop :=
  ∀ f args S p v S', h f args S = some (p, v, S') → (∃ fn, P.funcs[f]? = some fn ∧ fn.body.isSome = true ∧ fn.name ≠ "runtime.NumGoroutine") ∧
    ∀ cx w (us : List Value), SRel R cx S w → us.length = args.length → (∀ (i : Nat) (x : AV) (u : Value), args[i]? = some x → us[i]? = some u → ARel cx S w x u) →
    Calls P f us.toArray w (fun e w' => ∃ cx', SRel R cx' S' w' ∧ Ext cx S w cx' S' w' ∧
      EndOk cx' S' w' p v e)

/-- What follows one operation. -/
def After (R : ObjR) (cx : Cx) (S : St) (w : World) (nt : Nat) (a : Act) (K : Act → World → Prop) (Q : Exit → Act → World → Prop) : Stp → Prop
  | .go e' S' => ∀ cx' a' w', SRel R cx' S' w' → Ext cx S w cx' S' w' → ERel cx' S' w' nt e' a' → a'.defers = a.defers → K a' w'
  | .stop v S' => ∀ cx' w' u, SRel R cx' S' w' → Ext cx S w cx' S' w' → ARel cx' S' w' v u → Q (.panic [{ v := u, recovered := false }]) a w'

theorem put_defers (a : Act) (d : Option Nat) (v : Value) : (a.put d v).defers = a.defers := by cases d <;> rfl

theorem step_sound {R : ObjR} {C : Cfg} (hR : ObjOkC R C) {h : Hand} (hh : HandOk R C.P h) {cx : Cx} {S : St} {w : World} {nt : Nat} {e : Env} {a : Act} {ops : Array Oper} {o : Oper} {r : Stp}
    (hs : stepE C h nt ops o e S = some r) (hS : SRel R cx S w) (he : ERel cx S w nt e a) {K : Act → World → Prop} {Q : Exit → Act → World → Prop} (hk : After R cx S w nt a K Q r) {i : Nat} (hi : ops[i]? = some o) :
    wpOp C.P ops Q i K a w := by
  unfold wpOp
  rw [hi]
  simp only
  unfold stepE at hs
  have hrefl := Ext.refl (cx := cx) w hS.wf
  split at hs
  · rename_i hw
    rw [if_pos (wanted_sound he hw)]
    left
    split at hs
    · rename_i v S' hop
      obtain ⟨cx', w', u, h1, h2, h3, h4⟩ := oper_sound hR hS he.eval o hop
      split at hs
      · rename_i e' hp
        simp only [Option.some.injEq] at hs; subst hs
        unfold Oper.wp
        rw [h1]
        exact hk cx' _ w' h2 h3 ((he.mono h3).put hp h4) (put_defers _ _ _)
      · cases hs
    · rename_i S' hop
      obtain ⟨cx', w', h1, h2, h3⟩ := oper_sound hR hS he.eval o hop
      split at hs
      · rename_i hd
        simp only [Option.some.injEq] at hs; subst hs
        unfold Oper.wp
        rw [h1]
        show K (a.put o.dst undef) w'
        rw [hd]
        exact hk cx' _ w' h2 h3 (he.mono h3) rfl
      · cases hs
    · rename_i f args hop
      obtain ⟨us, h1, h2, h3⟩ := oper_sound hR hS he.eval o hop
      split at hs
      · rename_i v S' hc
        obtain ⟨⟨fn, f1, f2, f3⟩, hcalls⟩ := hh f args S _ v S' hc
        split at hs
        · rename_i e' hp
          simp only [Option.some.injEq] at hs; subst hs
          unfold Oper.wp
          rw [h3 fn f1 f2 f3]
          refine (hcalls cx w us hS h1 h2).mono (fun en w' hen => ?_)
          obtain ⟨cx', k1, k2, u, rfl, k3⟩ := hen
          exact hk cx' _ w' k1 k2 ((he.mono k2).put hp k3) (put_defers _ _ _)
        · cases hs
      · rename_i p v S' hc
        obtain ⟨⟨fn, f1, f2, f3⟩, hcalls⟩ := hh f args S _ v S' hc
        simp only [Option.some.injEq] at hs; subst hs
        unfold Oper.wp
        rw [h3 fn f1 f2 f3]
        refine (hcalls cx w us hS h1 h2).mono (fun en w' hen => ?_)
        obtain ⟨cx', k1, k2, u, rfl, k3⟩ := hen
        exact hk cx' w' u k1 k2 k3
      · cases hs
    · cases hs
    · cases hs
  · rename_i hw
    rw [if_neg (by rw [wanted_sound he hw]; simp)]
    split at hs
    · rename_i hd
      simp only [Option.some.injEq] at hs; subst hs
      rw [hd]
      exact hk cx _ w hS hrefl he rfl
    · rename_i t hd
      split at hs
      · rename_i e1 hput
        simp only [Option.some.injEq] at hs; subst hs
        rw [hd]
        exact hk cx _ w hS hrefl (he.put hput (.tup [] [] rfl (fun i x v hx => by simp at hx))) (put_defers _ _ _)
      · cases hs
  · cases hs

end
end Go.Ev


namespace Go.Ev
noncomputable section
set_option linter.unusedVariables false
set_option linter.unusedSimpArgs false

/-- 0: looks at its operands alone; 1: reads the memory; 2: writes it. -/
def isVal (S : St) (S' : St) (a b : Option Nxt) : Prop := ∀ nx, a = some nx → ∃ v, nx = .val v S ∧ b = some (.val v S')

theorem AL.has_false {α : Type} : ∀ {l : AL α} {n : Nat}, AL.has l n = false → AL.get l n = none
  | [], _, _ => rfl
  | (k, v) :: l, n, h => by
    simp only [AL.has] at h
    cases hb : Nat.beq k n with
    | true => rw [hb] at h; cases h
    | false =>
      rw [hb] at h
      rw [AL.get_cns, hb, cond_false]
      exact AL.has_false h

theorem cls_bs {C : Cfg} {t len : Nat} {ps : Array (Nat × Operand)} (h0 : ¬ cls C (.buildSlice t len ps) = 0) (hc : cls C (.buildSlice t len ps) ≤ 1) : False := by
  unfold cls at h0 hc
  cases h : asRow C t len <;> simp [h] at h0 hc

theorem buildRow_val {C : Cfg} {t len : Nat} {S : St} {ps : List (Nat × AV)} {nx : Nxt} (h : opBuildRow C t S len ps = some nx) : S.H.get S.nx = none ∧ ∃ v b, nx = .val v (newBlk S b) := by
  unfold opBuildRow at h
  split at h
  · split at h
    · split at h
      · cases hh : S.H.has S.nx with
        | true => simp [hh] at h
        | false =>
          simp only [hh, cond_false, Option.map_eq_some_iff] at h
          obtain ⟨z, _, rfl⟩ := h
          exact ⟨AL.has_false hh, _, _, rfl⟩
      · cases h
    · cases h
  · cases h

theorem cls0 {C : Cfg} {ρ : Operand → Option AV} {op : Op} (hc : cls C op = 0) (S S' : St) : isVal S S' (oper C ρ S op) (oper C ρ S' op) := by
  intro nx h
  cases op
  case buildSlice t len ps =>
    have hr : asRow C t len = false := by unfold cls at hc; cases hq : asRow C t len <;> simp [hq] at hc ⊢
    simp only [oper, hr, cond_false] at h ⊢
    (repeat' split at h) <;> first
      | (cases h; done)
      | (simp only [Option.map_eq_some_iff] at h; obtain ⟨a, ha, rfl⟩ := h; exact ⟨_, rfl, by simp_all⟩)
  all_goals simp only [cls] at hc
  all_goals try (cases hc; done)
  case call c =>
    obtain ⟨callee, args, ats⟩ := c
    cases callee <;> try (exact absurd (show (2 : Nat) = 0 from hc) (by omega))
    rename_i b
    cases b <;> try (first | exact absurd (show (2 : Nat) = 0 from hc) (by omega) | exact absurd (show (1 : Nat) = 0 from hc) (by omega))
    all_goals
      simp only [oper] at h ⊢
      split at h
      · simp only [builtinAV, Option.map_eq_some_iff] at h ⊢
        obtain ⟨a, ha, rfl⟩ := h
        exact ⟨_, rfl, by simp_all⟩
      · cases h
  all_goals
    simp only [oper] at h ⊢
    (repeat' split at h) <;> first
      | (cases h; done)
      | (simp only [Option.some.injEq] at h; subst h; exact ⟨_, rfl, by simp_all⟩)
      | (simp only [Option.map_eq_some_iff] at h; obtain ⟨a, ha, rfl⟩ := h; exact ⟨_, rfl, by simp_all⟩)

theorem cls1 {C : Cfg} {ρ : Operand → Option AV} {op : Op} (hc : cls C op ≤ 1) (S : St) {nx : Nxt} (h : oper C ρ S op = some nx) : ∃ v, nx = .val v S := by
  by_cases h0 : cls C op = 0
  · obtain ⟨v, h1, _⟩ := cls0 h0 S S nx h; exact ⟨v, h1⟩
  · cases op <;> try (first | exact absurd rfl h0 | exact absurd (show (2 : Nat) ≤ 1 from hc) (by omega) | exact (cls_bs h0 hc).elim)
    case load t a =>
      simp only [oper] at h
      split at h
      · simp only [Option.map_eq_some_iff] at h
        obtain ⟨r, hr, rfl⟩ := h
        exact ⟨r, rfl⟩
      · cases h
    case lookup t m k ok =>
      simp only [oper] at h
      split at h
      · simp only [Option.map_eq_some_iff] at h
        obtain ⟨r, hr, rfl⟩ := h
        exact ⟨r, rfl⟩
      · cases h
    case call c =>
      obtain ⟨callee, args, ats⟩ := c
      cases callee <;> try (exact absurd (show (2 : Nat) ≤ 1 from hc) (by omega))
      rename_i b
      cases b <;> try (first | exact absurd rfl h0 | exact absurd (show (2 : Nat) ≤ 1 from hc) (by omega))
      simp only [oper] at h
      split at h
      · simp only [builtinAV] at h
        (repeat' split at h) <;> first
          | (cases h; done)
          | (simp only [Option.map_eq_some_iff] at h; obtain ⟨a, ha, rfl⟩ := h; exact ⟨_, rfl⟩)
          | contradiction
      · cases h

theorem mapO_congr {α β : Type} {f g : α → Option β} : ∀ {l : List α}, (∀ x ∈ l, f x = g x) → mapO f l = mapO g l
  | [], _ => rfl
  | x :: l, h => by
    simp only [mapO]
    rw [h x (by simp), mapO_congr (fun y hy => h y (by simp [hy]))]

theorem oper_congr {C : Cfg} {ρ ρ' : Operand → Option AV} (S : St) (op : Op) (h : ∀ x ∈ op.operands, ρ x = ρ' x) : oper C ρ S op = oper C ρ' S op := by
  cases op <;> simp only [Op.operands] at h <;> simp only [oper]
  case build t ps =>
    have : evals ρ ps = evals ρ' ps := mapO_congr fun p hp => by rw [h p.2 (by simp; exact ⟨p.1, by simpa using hp⟩)]
    rw [this]
  case buildSlice t n ps =>
    have : evals ρ ps = evals ρ' ps := mapO_congr fun p hp => by rw [h p.2 (by simp; exact ⟨p.1, by simpa using hp⟩)]
    rw [this]
  case makeFunc fn first caps =>
    have : mapO ρ caps.toList = mapO ρ' caps.toList := mapO_congr fun p hp => h p (by simp; exact .inr (by simpa using hp))
    rw [this]
  case call c =>
    have ha : mapO ρ c.args.toList = mapO ρ' c.args.toList := mapO_congr fun p hp => h p (by simp only [Call.operands]; exact Array.mem_append.2 (.inr (by simpa using hp)))
    rw [ha]
    cases hc : c.callee with
    | value f => have : ρ f = ρ' f := h f (by simp [Call.operands, hc]); simp only [this]
    | invoke r m => rfl
    | builtin b => rfl
  case makeMap t r =>
    cases r with
    | none => rfl
    | some o => have he : ρ o = ρ' o := h o (by simp); simp only [he]
  case slice t x lo hi mx =>
    have hx : ρ x = ρ' x := h x (by simp)
    have hl : dOpt ρ lo = dOpt ρ' lo := by cases lo <;> simp only [dOpt]; rw [h _ (by simp)]
    have hh : dOpt ρ hi = dOpt ρ' hi := by cases hi <;> simp only [dOpt]; rw [h _ (by simp)]
    have hm : dOpt ρ mx = dOpt ρ' mx := by cases mx <;> simp only [dOpt]; rw [h _ (by simp)]
    rw [hx, hl, hh, hm]
  case pick c a b =>
    rw [h c (by simp)]
    cases ρ' c with
    | none => rfl
    | some v =>
      cases v <;> try rfl
      rename_i x
      cases x <;> try rfl
      rename_i t
      cases t
      · simp only [Bool.false_eq_true, if_false]; rw [h b (by simp)]
      · simp only [if_true]; rw [h a (by simp)]
  all_goals (first | rfl | (simp only [h _ (by simp : _ ∈ _)]; done) | (simp_all; done))

/-- The two agree in every slot. -/
def Eqv (e e' : Env) : Prop := ∀ t, AL.get e t = AL.get e' t
/-- One slot is turned. -/
def Upd (e : Env) (dst : Option Nat) (x : Option AV) (e' : Env) : Prop := ∀ t, AL.get e' t = if dst = some t then x else AL.get e t

theorem Upd.put {nt : Nat} {e e' : Env} {dst : Option Nat} {v : AV} (h : Env.put nt e dst v = some e') : Upd e dst (some v) e' := by
  unfold Env.put at h
  split at h
  · rename_i t
    cases hb : Nat.blt t nt with
    | false => rw [hb] at h; cases h
    | true =>
      rw [hb] at h; simp at h; subst h
      intro u; rw [AL.get_cons]
      by_cases hu : t = u <;> simp [hu]
  · simp at h; subst h; intro u; simp

theorem put_any {nt : Nat} {e e' : Env} {dst : Option Nat} {v : AV} (h : Env.put nt e dst v = some e') (e2 : Env) : ∃ e2', Env.put nt e2 dst v = some e2' := by
  unfold Env.put at h ⊢
  split at h
  · rename_i t
    cases hb : Nat.blt t nt with
    | false => rw [hb] at h; cases h
    | true => exact ⟨_, rfl⟩
  · exact ⟨_, rfl⟩

theorem Upd.del (e : Env) (t : Nat) : Upd e (some t) none (AL.del e t) := by
  intro u; rw [AL.get_del]; by_cases hu : t = u <;> simp [hu]
theorem Upd.none (e : Env) (x : Option AV) : Upd e none x e := by intro u; simp

theorem evalO_agree {e e2 : Env} {ops : Array Oper} {o : Oper} (h : ∀ t ∈ o.looksAt ops, AL.get e2 t = AL.get e t) : ∀ x ∈ o.op.operands, evalO e x = evalO e2 x := by
  intro x hx
  cases x <;> try rfl
  rename_i t
  simp only [evalO]
  exact (h t (List.mem_append_left _ (List.mem_filterMap.2 ⟨.tmp t, by simpa using hx, rfl⟩))).symm

theorem wanted_agree {e e2 : Env} {ops : Array Oper} {o : Oper} (h : ∀ t ∈ o.looksAt ops, AL.get e2 t = AL.get e t) : wantedE ops e2 o = wantedE ops e o := by
  unfold wantedE
  cases hg : o.guard with
  | none => rfl
  | some p =>
    obtain ⟨j, want⟩ := p
    simp only
    cases hj : ops[j]? with
    | none => rfl
    | some oj =>
      simp only
      cases ht : oj.dst with
      | none => rfl
      | some t =>
        simp only
        rw [h t (by unfold Oper.looksAt; rw [hg]; simp [hj, ht])]

theorem step_congr {C : Cfg} {h : Hand} {nt : Nat} {ops : Array Oper} {o : Oper} {e e' e2 : Env} {S S' : St} (hs : stepE C h nt ops o e S = some (.go e' S')) (ha : ∀ t ∈ o.looksAt ops, AL.get e2 t = AL.get e t) :
    ∃ x e2', stepE C h nt ops o e2 S = some (.go e2' S') ∧ Upd e o.dst x e' ∧ Upd e2 o.dst x e2' := by
  have hop : oper C (evalO e2) S o.op = oper C (evalO e) S o.op := oper_congr S o.op (fun x hx => (evalO_agree ha x hx).symm)
  unfold stepE at hs ⊢
  rw [wanted_agree ha, hop]
  split at hs
  · split at hs
    · rename_i v S1 ho
      split at hs
      · rename_i e1 hp
        simp only [Option.some.injEq, Stp.go.injEq] at hs
        obtain ⟨rfl, rfl⟩ := hs
        obtain ⟨e2', h2⟩ := put_any hp e2
        exact ⟨some v, e2', by simp [h2], Upd.put hp, Upd.put h2⟩
      · cases hs
    · rename_i S1 ho
      split at hs
      · rename_i hd
        simp only [Option.some.injEq, Stp.go.injEq] at hs
        obtain ⟨rfl, rfl⟩ := hs
        refine ⟨.none, e2, by simp, ?_, ?_⟩ <;> (rw [hd]; exact Upd.none _ _)
      · cases hs
    · rename_i f args ho
      split at hs
      · rename_i v S1 hc
        split at hs
        · rename_i e1 hp
          simp only [Option.some.injEq, Stp.go.injEq] at hs
          obtain ⟨rfl, rfl⟩ := hs
          obtain ⟨e2', h2⟩ := put_any hp e2
          exact ⟨some v, e2', by simp [h2], Upd.put hp, Upd.put h2⟩
        · cases hs
      · cases hs
      · cases hs
    · cases hs
    · cases hs
  · split at hs
    · rename_i hd
      simp only [Option.some.injEq, Stp.go.injEq] at hs
      obtain ⟨rfl, rfl⟩ := hs
      refine ⟨.none, e2, by simp, ?_, ?_⟩ <;> (rw [hd]; exact Upd.none _ _)
    · rename_i t hd
      split at hs
      · rename_i e1 hput
        simp only [Option.some.injEq, Stp.go.injEq] at hs
        obtain ⟨rfl, rfl⟩ := hs
        obtain ⟨e2', h2⟩ := put_any hput e2
        refine ⟨some (.tup []), e2', by simp [h2], ?_, ?_⟩
        · rw [hd]; exact Upd.put hput
        · rw [hd]; exact Upd.put h2
      · cases hs
  · cases hs

/-- A call leaves the memory out, if all that it takes and gives is data. -/
def PureOk (h : Hand) : Prop := ∀ f args S v S', h f args S = some (none, v, S') → (toDs args).isSome = true → (toDT v).isSome = true → ∀ S2, h f args S2 = some (none, v, S2)

/-- The operation does the same in every memory. -/
def Z0 (C : Cfg) (h : Hand) (nt : Nat) (ops : Array Oper) (o : Oper) (e : Env) : Prop :=
  ∃ x : Option AV, ∀ e2 : Env, (∀ t ∈ o.looksAt ops, AL.get e2 t = AL.get e t) → ∀ S2, ∃ e2', stepE C h nt ops o e2 S2 = some (.go e2' S2) ∧ Upd e2 o.dst x e2'

theorem Z0.agree {C : Cfg} {h : Hand} {nt : Nat} {ops : Array Oper} {o : Oper} {e f : Env} (z : Z0 C h nt ops o e) (ha : ∀ t ∈ o.looksAt ops, AL.get f t = AL.get e t) : Z0 C h nt ops o f := by
  obtain ⟨x, hx⟩ := z
  exact ⟨x, fun e2 h2 => hx e2 (fun t ht => (h2 t ht).trans (ha t ht))⟩

theorem builtin_val {C : Cfg} {b : Builtin} {A : Array Nat} {S : St} {args : List AV} {nx : Nxt} (h : builtinAV C b A S args = some nx) : ∃ v S', nx = .val v S' := by
  have hm : ∀ {α : Type} {o : Option α} {g : α → AV} {k : α → St}, o.map (fun r => Nxt.val (g r) (k r)) = some nx → ∃ v S', nx = .val v S' := by
    intro α o g k hq
    simp only [Option.map_eq_some_iff] at hq
    obtain ⟨r, _, rfl⟩ := hq
    exact ⟨_, _, rfl⟩
  unfold builtinAV at h
  split at h
  · split at h
    · split at h
      · exact hm h
      · cases h
    · cases h
  · split at h
    · rename_i t ht
      cases ht2 : A[1]? with
      | none => simp [ht2] at h
      | some t2 =>
        simp only [ht2] at h
        by_cases hsrc : okSrc C t2 = true
        · rw [if_pos hsrc] at h
          split at h
          · split at h
            · exact hm h
            · cases hr : C.rowT t with
              | true =>
                simp only [hr, cond_true] at h
                split at h
                · exact hm h
                · exact hm h
                · cases h
              | false =>
                simp only [hr, cond_false] at h
                split at h
                · exact hm h
                · split at h
                  · exact hm h
                  · cases h
          · cases h
        · rw [if_neg hsrc] at h; cases h
    · cases h
  · split at h
    · split at h
      · unfold copyAV at h
        (repeat' split at h) <;> first
          | (cases h; done)
          | (simp only [Option.some.injEq] at h; subst h; exact ⟨_, _, rfl⟩)
      · cases h
    · cases h
  · split at h
    · split at h
      · unfold clearAV at h
        (repeat' split at h) <;> first
          | (cases h; done)
          | (simp only [Option.some.injEq] at h; subst h; exact ⟨_, _, rfl⟩)
      · cases h
    · cases h
  · split at h
    · simp only [Option.map_eq_some_iff] at h
      obtain ⟨r, _, rfl⟩ := h
      exact ⟨_, _, rfl⟩
    · cases h
  · exact hm h
  · exact hm h
  · cases h

theorem oper_call {C : Cfg} {ρ : Operand → Option AV} {op : Op} {S : St} {f : Nat} {args : List AV} (h : oper C ρ S op = some (.call f args)) (hc : ¬ cls C op ≤ 1) (S2 : St) : oper C ρ S2 op = some (.call f args) := by
  cases op <;> try (first | exact absurd (show (0 : Nat) ≤ 1 from Nat.zero_le 1) hc | exact absurd (show (1 : Nat) ≤ 1 from Nat.le_refl 1) hc)
  case call c =>
    obtain ⟨callee, as, ats⟩ := c
    cases callee with
    | value g => simpa only [oper] using h
    | invoke r m => simp only [oper] at h; cases h
    | builtin b =>
      exfalso
      simp only [oper] at h
      split at h
      · rename_i args hargs
        obtain ⟨v, S', hq⟩ := builtin_val h
        cases hq
      · cases h
  case buildSlice t len ps =>
    exfalso
    have hr : asRow C t len = true := by unfold cls at hc; cases hq : asRow C t len <;> simp [hq] at hc ⊢
    simp only [oper, hr, cond_true] at h
    split at h
    · obtain ⟨_, v, cs, hq⟩ := buildRow_val h; cases hq
    · cases h
  all_goals
    exfalso
    simp only [oper] at h
    (repeat' split at h) <;> first
      | (cases h; done)
      | (simp only [Option.map_eq_some_iff] at h; obtain ⟨a, ha, h⟩ := h; cases h; done)
      | (simp only [Option.some.injEq] at h; cases h; done)
      | (cases hh : S.H.has S.nx <;> simp [hh] at h; done)

theorem step_k {C : Cfg} {h : Hand} (hp : PureOk h) {nt : Nat} {ops : Array Oper} {o : Oper} {e e' : Env} {S S' : St} (hs : stepE C h nt ops o e S = some (.go e' S')) (hk : kOf C ops o e e' S = 0) : Z0 C h nt ops o e := by
  have skip : wantedE ops e o = some false → Z0 C h nt ops o e := fun hw => by
    refine ⟨some (.tup []), fun e2 ha S2 => ?_⟩
    unfold stepE at hs ⊢
    rw [wanted_agree ha, hw]
    rw [hw] at hs
    cases hd : o.dst with
    | none => exact ⟨e2, by simp, Upd.none _ _⟩
    | some t =>
      simp only [hd] at hs ⊢
      split at hs
      · rename_i e1 hput
        obtain ⟨e2', h2⟩ := put_any hput e2
        exact ⟨e2', by simp [h2], Upd.put h2⟩
      · cases hs
  have vals : ∀ {v : AV}, wantedE ops e o = some true → (∀ S2, oper C (evalO e) S2 o.op = some (.val v S2)) → Env.put nt e o.dst v = some e' → Z0 C h nt ops o e := fun {v} hw hv hput => by
    refine ⟨some v, fun e2 ha S2 => ?_⟩
    have hop : oper C (evalO e2) S2 o.op = oper C (evalO e) S2 o.op := oper_congr S2 o.op (fun x hx => (evalO_agree ha x hx).symm)
    obtain ⟨e2', h2⟩ := put_any hput e2
    refine ⟨e2', ?_, Upd.put h2⟩
    unfold stepE
    rw [wanted_agree ha, hw, hop, hv S2]
    simp [h2]
  unfold stepE at hs
  split at hs
  · rename_i hw
    by_cases hc : cls C o.op ≤ 1
    · have h0 : cls C o.op = 0 := by simpa [kOf, hc] using hk
      split at hs
      · rename_i v S1 ho
        split at hs
        · rename_i e1 hput
          simp only [Option.some.injEq, Stp.go.injEq] at hs
          obtain ⟨rfl, rfl⟩ := hs
          obtain ⟨v', h1, _⟩ := cls0 h0 S S _ ho
          simp only [Nxt.val.injEq] at h1
          obtain ⟨rfl, rfl⟩ := h1
          exact vals hw (fun S2 => by
            obtain ⟨v2, h2, h3⟩ := cls0 h0 S1 S2 _ ho
            simp only [Nxt.val.injEq, and_true] at h2
            subst h2; exact h3) hput
        · cases hs
      · rename_i S1 ho; obtain ⟨v', h1, _⟩ := cls0 h0 S S _ ho; cases h1
      · rename_i f args ho; obtain ⟨v', h1, _⟩ := cls0 h0 S S _ ho; cases h1
      · cases hs
      · cases hs
    · unfold kOf at hk
      rw [if_neg hc] at hk
      split at hk
      · cases hk
      · unfold kTail at hk
        rw [hw] at hk
        split at hs
        · rename_i v S1 ho; simp only [ho] at hk; cases hk
        · rename_i S1 ho; simp only [ho] at hk; cases hk
        · rename_i f args ho
          simp only [ho] at hk
          cases hcond : quietB o e' args with
          | false => rw [hcond] at hk; cases hk
          | true =>
            unfold quietB at hcond
            simp only [Bool.and_eq_true] at hcond
            obtain ⟨hargs, hres⟩ := hcond
            split at hs
            · rename_i v S1 hcall
              split at hs
              · rename_i e1 hput
                simp only [Option.some.injEq, Stp.go.injEq] at hs
                obtain ⟨rfl, rfl⟩ := hs
                have hv : (toDT v).isSome = true := by
                  cases hd : o.dst with
                  | none => rw [hd] at hres; cases hres
                  | some t =>
                    have := Upd.put hput t
                    rw [hd] at this hres
                    simp only [if_true] at this
                    simp only [this] at hres
                    exact hres
                refine ⟨some v, fun e2 ha S2 => ?_⟩
                have hop : oper C (evalO e2) S2 o.op = oper C (evalO e) S2 o.op := oper_congr S2 o.op (fun x hx => (evalO_agree ha x hx).symm)
                obtain ⟨e2', h2⟩ := put_any hput e2
                refine ⟨e2', ?_, Upd.put h2⟩
                unfold stepE
                rw [wanted_agree ha, hw, hop, oper_call ho hc S2]
                simp only [hp f args S v S1 hcall hargs hv S2, h2]
              · cases hs
            · cases hs
            · cases hs
        · cases hs
        · cases hs
  · rename_i hw; exact skip hw
  · cases hs

theorem step1 {C : Cfg} {h : Hand} {nt : Nat} {ops : Array Oper} {o : Oper} {e e' : Env} {S S' : St} (hc : cls C o.op ≤ 1) (hs : stepE C h nt ops o e S = some (.go e' S')) : S' = S := by
  unfold stepE at hs
  split at hs
  · split at hs
    · rename_i v S1 ho
      obtain ⟨v', h1⟩ := cls1 hc S ho
      simp only [Nxt.val.injEq] at h1
      obtain ⟨rfl, rfl⟩ := h1
      split at hs
      · simp only [Option.some.injEq, Stp.go.injEq] at hs; exact hs.2.symm
      · cases hs
    · rename_i S1 ho; obtain ⟨v', h1⟩ := cls1 hc S ho; cases h1
    · rename_i f args ho; obtain ⟨v', h1⟩ := cls1 hc S ho; cases h1
    · cases hs
    · cases hs
  · (repeat' split at hs) <;> first | (simp only [Option.some.injEq, Stp.go.injEq] at hs; exact hs.2.symm) | cases hs
  · cases hs

theorem kTail_or (C : Cfg) (ops : Array Oper) (o : Oper) (e e' : Env) (S : St) : kTail C ops o e e' S = 0 ∨ kTail C ops o e e' S = 2 := by
  unfold kTail
  split
  · exact .inl rfl
  · split
    · rename_i args _
      cases quietB o e' args
      · exact .inr rfl
      · exact .inl rfl
    · exact .inr rfl

theorem kOf_one {C : Cfg} {ops : Array Oper} {o : Oper} {e e' : Env} {S : St} (h : kOf C ops o e e' S = 1) : cls C o.op ≤ 1 := by
  unfold kOf at h
  split at h
  · assumption
  · split at h
    · omega
    · rcases kTail_or C ops o e e' S with q | q <;> omega
theorem kOf_new {C : Cfg} {ops : Array Oper} {o : Oper} {e e' : Env} {S : St} (h : kOf C ops o e e' S = 3) : isNew C o.op = true := by
  unfold kOf at h
  split at h
  · omega
  · split at h
    · assumption
    · rcases kTail_or C ops o e e' S with q | q <;> omega

/-- A new variable: the state behind it. -/
theorem step_new {C : Cfg} {h : Hand} {nt : Nat} {ops : Array Oper} {o : Oper} {e e' : Env} {S S' : St} (hn : isNew C o.op = true) (hs : stepE C h nt ops o e S = some (.go e' S')) :
    S' = S ∨ (S.H.get S.nx = none ∧ ∃ b, S' = newBlk S b) := by
  unfold stepE at hs
  split at hs
  · right
    have key : ∀ {nx : Nxt}, oper C (evalO e) S o.op = some nx → S.H.get S.nx = none ∧ ∃ v b, nx = .val v (newBlk S b) := by
      intro nx ho
      obtain ⟨dst, op, ty, pos, after, guard⟩ := o
      simp only at hn ho
      cases op <;> try (cases hn; done)
      case buildSlice t len ps _ =>
        have hr : asRow C t len = true := hn
        simp only [oper, hr, cond_true] at ho
        split at ho
        · exact buildRow_val ho
        · cases ho
      case range t x =>
        simp only [oper] at ho
        cases hh : S.H.has S.nx with
        | true =>
          split at ho
          · split at ho
            · simp [hh] at ho
            · cases ho
          · simp [hh] at ho
          · cases ho
        | false =>
          split at ho
          · split at ho
            · simp only [hh, cond_false, Option.some.injEq] at ho
              subst ho
              exact ⟨AL.has_false hh, _, _, rfl⟩
            · cases ho
          · simp only [hh, cond_false, Option.some.injEq] at ho
            subst ho
            exact ⟨AL.has_false hh, _, _, rfl⟩
          · cases ho
      · rename_i t
        simp only [oper] at ho
        cases hh : S.H.has S.nx with
        | true => simp [hh] at ho
        | false =>
          simp only [hh, cond_false] at ho
          split at ho
          · simp only [Option.some.injEq] at ho
            subst ho
            exact ⟨AL.has_false hh, _, _, rfl⟩
          · simp only [Option.map_eq_some_iff] at ho
            obtain ⟨z, _, rfl⟩ := ho
            exact ⟨AL.has_false hh, _, _, rfl⟩
      · rename_i t x
        simp only [oper] at ho
        split at ho
        · split at ho
          · cases hh : S.H.has S.nx with
            | true => simp [hh] at ho
            | false =>
              simp only [hh, cond_false, Option.some.injEq] at ho
              subst ho
              exact ⟨AL.has_false hh, _, _, rfl⟩
          · cases ho
        · cases ho
    split at hs
    · rename_i v S1 ho
      obtain ⟨k1, v', cs, k2⟩ := key ho
      simp only [Nxt.val.injEq] at k2
      obtain ⟨rfl, rfl⟩ := k2
      split at hs
      · simp only [Option.some.injEq, Stp.go.injEq] at hs
        exact ⟨k1, cs, hs.2.symm⟩
      · cases hs
    · rename_i S1 ho; obtain ⟨_, v', cs, k2⟩ := key ho; cases k2
    · rename_i f args ho; obtain ⟨_, v', cs, k2⟩ := key ho; cases k2
    · cases hs
    · cases hs
  · left
    (repeat' split at hs) <;> first | (simp only [Option.some.injEq, Stp.go.injEq] at hs; exact hs.2.symm) | cases hs
  · cases hs

theorem look_new {S : St} {nb : Blk} (hn : S.H.get S.nx = none) {id : Nat} {b : Blk} (h : S.H.get id = some b) : (newBlk S nb).H.get id = some b := by
  simp only [newBlk, AL.get_set]
  rw [if_neg (fun q => by subst q; rw [hn] at h; cases h)]
  exact h

theorem lenAV_new {S : St} {nb : Blk} (hn : S.H.get S.nx = none) {x : AV} {n : Nat} (h : lenAV x S = some n) : lenAV x (newBlk S nb) = some n := by
  unfold lenAV at h
  split at h <;> first
    | exact h
    | (cases h; done)
    | (split at h
       · rename_i hg; simp only [lenAV, look_new hn hg]; exact h
       · cases h)

theorem mapOf_new {S : St} {nb : Blk} (hn : S.H.get S.nx = none) {x : AV} {M : MapD} (h : mapOf S x = some M) : mapOf (newBlk S nb) x = some M := by
  unfold mapOf at h ⊢
  split at h
  · exact h
  · split at h
    · rename_i hg; simp only [look_new hn hg]; exact h
    · cases h
  · cases h

/-- What is looked at stays, where a new variable comes in. -/
theorem read_new {C : Cfg} {ρ : Operand → Option AV} {op : Op} (hc : cls C op ≤ 1) {S : St} {nb : Blk} (hn : S.H.get S.nx = none) {v : AV} (h : oper C ρ S op = some (.val v S)) : oper C ρ (newBlk S nb) op = some (.val v (newBlk S nb)) := by
  by_cases h0 : cls C op = 0
  · obtain ⟨v', h1, h2⟩ := cls0 h0 S (newBlk S nb) _ h
    simp only [Nxt.val.injEq, and_true] at h1
    subst h1; exact h2
  · cases op <;> try (first | exact absurd rfl h0 | exact absurd (show (2 : Nat) ≤ 1 from hc) (by omega) | exact (cls_bs h0 hc).elim)
    case load t a =>
      simp only [oper] at h ⊢
      split at h
      · rename_i u hu
        simp only [Option.map_eq_some_iff, Nxt.val.injEq, and_true] at h ⊢
        obtain ⟨r, hr, rfl⟩ := h
        refine ⟨r, ?_, rfl⟩
        unfold opLoad at hr ⊢
        split at hr
        · rename_i id gen off
          split at hr
          · rename_i cs' hl
            have hk : ∃ g, S.H.get id = some (.cells g cs') := by
              unfold St.look at hl
              split at hl
              · rename_i g' cs2 hg
                cases hb : Nat.beq g' gen with
                | true => rw [hb] at hl; simp at hl; subst hl; exact ⟨_, hg⟩
                | false => rw [hb] at hl; simp at hl
              · cases hl
            obtain ⟨g, hk⟩ := hk
            have : (newBlk S nb).look id gen = some cs' := by
              unfold St.look at hl ⊢
              rw [look_new hn hk]
              rw [hk] at hl
              exact hl
            rw [this]; exact hr
          · cases hr
        · exact hr
        · cases hr
      · cases h
    case lookup t m k ok =>
      simp only [oper] at h ⊢
      split at h
      · simp only [Option.map_eq_some_iff, Nxt.val.injEq, and_true] at h ⊢
        obtain ⟨r, hr, rfl⟩ := h
        refine ⟨r, ?_, rfl⟩
        unfold opLookup at hr
        split at hr
        · rename_i kt et M hkt hM
          have : mapOf (newBlk S nb) _ = some M := mapOf_new hn hM
          unfold opLookup
          simp only [hkt, this]
          exact hr
        · cases hr
      · cases h
    case call c =>
      obtain ⟨callee, args, ats⟩ := c
      cases callee <;> try (exact absurd (show (2 : Nat) ≤ 1 from hc) (by omega))
      rename_i b
      cases b <;> try (first | exact absurd rfl h0 | exact absurd (show (2 : Nat) ≤ 1 from hc) (by omega))
      simp only [oper] at h ⊢
      split at h
      · rename_i as has
        unfold builtinAV at h ⊢
        split at h <;> try (first | contradiction | (cases h; done))
        split at h
        · rename_i t ht
          split at h
          · rename_i hlt
            simp only [Option.map_eq_some_iff, Nxt.val.injEq, and_true] at h
            obtain ⟨n, hn', rfl⟩ := h
            simp only [lenAV_new hn hn', Option.map_some, hlt, if_true]
          · cases h
        · cases h
      · cases h

theorem step_read_new {C : Cfg} {h : Hand} {nt : Nat} {ops : Array Oper} {o : Oper} {e e' : Env} {S : St} {nb : Blk} (hc : cls C o.op ≤ 1) (hn : S.H.get S.nx = none) (hs : stepE C h nt ops o e S = some (.go e' S)) :
    stepE C h nt ops o e (newBlk S nb) = some (.go e' (newBlk S nb)) := by
  unfold stepE at hs ⊢
  split at hs
  · split at hs
    · rename_i v S1 ho
      obtain ⟨v', h1⟩ := cls1 hc S ho
      simp only [Nxt.val.injEq] at h1
      obtain ⟨rfl, rfl⟩ := h1
      rw [read_new hc hn ho]
      split at hs
      · rename_i e1 hput
        simp only [Option.some.injEq, Stp.go.injEq, and_true] at hs
        subst hs
        simp [hput]
      · cases hs
    · rename_i S1 ho; obtain ⟨v', h1⟩ := cls1 hc S ho; cases h1
    · rename_i f args ho; obtain ⟨v', h1⟩ := cls1 hc S ho; cases h1
    · cases hs
    · cases hs
  · (repeat' split at hs) <;> first | (simp only [Option.some.injEq, Stp.go.injEq, and_true] at hs; subst hs; simp_all) | cases hs
  · cases hs

theorem sameEs_eq : ∀ (l l' : List (D × AV × Nat)), sameEs l l' = true → l = l'
  | [], l', h => by cases l' <;> simp_all [sameEs]
  | (k, v, n) :: l, l', h => by
    match l', h with
    | (k', v', n') :: l', h =>
      simp only [sameEs, Bool.and_eq_true] at h
      rw [Nat.eq_of_beq_eq_true h.1.1.1, D.same_eq _ _ h.1.1.2, AV.same_eq _ _ h.1.2, sameEs_eq _ _ h.2]

theorem sameAt_eq {S S' : St} {id : Nat} (h : sameAt S S' id = true) : S'.H.get id = S.H.get id := by
  unfold sameAt at h
  split at h
  · rename_i g cs g' cs' h1 h2
    simp only [Bool.and_eq_true] at h
    rw [h1, h2, Nat.eq_of_beq_eq_true h.1, AV.sames_eq _ _ h.2]
  · rename_i m m' h1 h2
    simp only [Bool.and_eq_true] at h
    rw [h1, h2]
    obtain ⟨es, clk⟩ := m
    obtain ⟨es', clk'⟩ := m'
    simp only at h
    rw [Nat.eq_of_beq_eq_true h.1, sameEs_eq _ _ h.2]
  · rename_i h1 h2; rw [h1, h2]
  · cases h

theorem idsOf_congr {ρ ρ' : Operand → Option AV} (op : Op) (h : ∀ x ∈ op.operands, ρ x = ρ' x) : idsOf ρ op = idsOf ρ' op := by
  cases op <;> simp only [Op.operands] at h <;> try rfl
  case load t a => simp only [idsOf]; rw [h a (by simp)]
  case lookup t m k ok => simp only [idsOf]; rw [h m (by simp)]
  case call c =>
    obtain ⟨callee, args, ats⟩ := c
    cases callee <;> try rfl
    rename_i b
    cases b <;> try rfl
    have ha : mapO ρ args.toList = mapO ρ' args.toList := mapO_congr fun p hp => h p (by simp only [Call.operands]; exact Array.mem_append.2 (.inr (by simpa using hp)))
    simp only [idsOf]
    rw [ha]

/-- What is looked at stays, where what it looks at stays. -/
theorem read_keep {C : Cfg} {ρ : Operand → Option AV} {op : Op} (hc : cls C op ≤ 1) {S S2 : St} (hI : ∀ id ∈ (idsOf ρ op).getD [], S2.H.get id = S.H.get id) {v : AV} (h : oper C ρ S op = some (.val v S)) : oper C ρ S2 op = some (.val v S2) := by
  by_cases h0 : cls C op = 0
  · obtain ⟨v', h1, h2⟩ := cls0 h0 S S2 _ h
    simp only [Nxt.val.injEq, and_true] at h1
    subst h1; exact h2
  · cases op <;> try (first | exact absurd rfl h0 | exact absurd (show (2 : Nat) ≤ 1 from hc) (by omega) | exact (cls_bs h0 hc).elim)
    case load t a =>
      simp only [oper] at h ⊢
      split at h
      · rename_i u hu
        simp only [Option.map_eq_some_iff, Nxt.val.injEq, and_true] at h ⊢
        obtain ⟨r, hr, rfl⟩ := h
        refine ⟨r, ?_, rfl⟩
        unfold opLoad at hr ⊢
        split at hr
        · rename_i id gen off
          have : S2.look id gen = S.look id gen := by
            unfold St.look
            rw [hI id (by simp [idsOf, hu])]
          simp only [this]; exact hr
        · exact hr
        · cases hr
      · cases h
    case lookup t m k ok =>
      simp only [oper] at h ⊢
      split at h
      · rename_i mv kd hmv hkd
        simp only [Option.map_eq_some_iff, Nxt.val.injEq, and_true] at h ⊢
        obtain ⟨r, hr, rfl⟩ := h
        refine ⟨r, ?_, rfl⟩
        have : mapOf S2 mv = mapOf S mv := by
          cases mv <;> try rfl
          · rename_i y; cases y <;> rfl
          · rename_i id
            simp only [mapOf]
            rw [hI id (by simp [idsOf, hmv])]
        unfold opLookup at hr ⊢
        rw [this]; exact hr
      · cases h
    case call c =>
      obtain ⟨callee, args, ats⟩ := c
      cases callee <;> try (exact absurd (show (2 : Nat) ≤ 1 from hc) (by omega))
      rename_i b
      cases b <;> try (first | exact absurd rfl h0 | exact absurd (show (2 : Nat) ≤ 1 from hc) (by omega))
      simp only [oper] at h ⊢
      split at h
      · rename_i as has
        unfold builtinAV at h ⊢
        split at h <;> try (first | contradiction | (cases h; done))
        rename_i x _
        split at h
        · rename_i t ht
          split at h
          · rename_i hlt
            simp only [Option.map_eq_some_iff, Nxt.val.injEq, and_true] at h
            obtain ⟨n, hn', rfl⟩ := h
            have : lenAV x S2 = some n := by
              rw [← hn']
              cases x <;> try rfl
              · rename_i y; cases y <;> rfl
              · rename_i id
                simp only [lenAV]
                rw [hI id (by simp [idsOf, has])]
            simp only [this, Option.map_some, hlt, if_true]
          · cases h
        · cases h
      · cases h

theorem step_keep {C : Cfg} {h : Hand} {nt : Nat} {ops : Array Oper} {o : Oper} {e e' : Env} {S S2 : St} (hc : cls C o.op ≤ 1) (hI : ∀ id ∈ (idsOf (evalO e) o.op).getD [], S2.H.get id = S.H.get id) (hs : stepE C h nt ops o e S = some (.go e' S)) :
    stepE C h nt ops o e S2 = some (.go e' S2) := by
  unfold stepE at hs ⊢
  split at hs
  · split at hs
    · rename_i v S1 ho
      obtain ⟨v', h1⟩ := cls1 hc S ho
      simp only [Nxt.val.injEq] at h1
      obtain ⟨rfl, rfl⟩ := h1
      rw [read_keep hc hI ho]
      split at hs
      · rename_i e1 hput
        simp only [Option.some.injEq, Stp.go.injEq, and_true] at hs
        subst hs
        simp [hput]
      · cases hs
    · rename_i S1 ho; obtain ⟨v', h1⟩ := cls1 hc S ho; cases h1
    · rename_i f args ho; obtain ⟨v', h1⟩ := cls1 hc S ho; cases h1
    · cases hs
    · cases hs
  · (repeat' split at hs) <;> first | (simp only [Option.some.injEq, Stp.go.injEq, and_true] at hs; subst hs; simp_all) | cases hs
  · cases hs

/-- What is known of an operation that came with such a number. -/
structure KOk (C : Cfg) (h : Hand) (nt : Nat) (ops : Array Oper) (I : List Nat) (o : Oper) (e : Env) (k : Nat) : Prop where
  zero : k = 0 → Z0 C h nt ops o e
  one : k = 1 → cls C o.op ≤ 1 ∧ ∀ id ∈ (idsOf (evalO e) o.op).getD [], id ∈ I
  three : k = 3 → isNew C o.op = true

theorem KOk.agree {C : Cfg} {h : Hand} {nt : Nat} {ops : Array Oper} {I : List Nat} {o : Oper} {e f : Env} {k : Nat} (z : KOk C h nt ops I o e k) (ha : ∀ t ∈ o.looksAt ops, AL.get f t = AL.get e t) : KOk C h nt ops I o f k :=
  ⟨fun q => (z.zero q).agree ha, fun q => ⟨(z.one q).1, by rw [idsOf_congr o.op (fun x hx => (evalO_agree ha x hx).symm)]; exact (z.one q).2⟩, z.three⟩

/-- What a write of kind 4 leaves alone. -/
def Keep (I : List Nat) (k : Nat) (S S' : St) : Prop := k = 4 → ∀ id ∈ I, S'.H.get id = S.H.get id

theorem commute {C : Cfg} {h : Hand} {nt : Nat} {ops : Array Oper} {I : List Nat} {x y : Oper} {e e1 e2 : Env} {S S1 S2 : St} {kx ky : Nat} (hap : x.apart ops y = true) (hcl : okK kx ky = true) (zx : KOk C h nt ops I x e kx) (zy : KOk C h nt ops I y e1 ky)
    (px : Keep I kx S S1) (py : Keep I ky S1 S2) (hx : stepE C h nt ops x e S = some (.go e1 S1)) (hy : stepE C h nt ops y e1 S1 = some (.go e2 S2)) :
    ∃ f1 T1 f2, stepE C h nt ops y e S = some (.go f1 T1) ∧ stepE C h nt ops x f1 T1 = some (.go f2 S2) ∧ Eqv f2 e2 ∧ KOk C h nt ops I y e ky ∧ KOk C h nt ops I x f1 kx ∧ Keep I ky S T1 ∧ Keep I kx T1 S2 := by
  obtain ⟨a1, a2, a3⟩ := Oper.apart_spec hap
  obtain ⟨vx, _, _, ux, _⟩ := step_congr hx (e2 := e) (fun _ _ => rfl)
  have hyl : ∀ t ∈ y.looksAt ops, AL.get e t = AL.get e1 t := fun t ht => by
    rw [ux t, if_neg (fun q => a1 t q ht)]
  have zy' := zy.agree hyl
  have xl : ∀ {vy : Option AV} {f1 : Env}, Upd e y.dst vy f1 → ∀ t ∈ x.looksAt ops, AL.get f1 t = AL.get e t := fun u t ht => by
    rw [u t, if_neg (fun q => a3 t q ht)]
  have fin : ∀ {vy : Option AV} {f1 : Env} {T : St}, Upd e1 y.dst vy e2 → Upd e y.dst vy f1 → (∃ f2, stepE C h nt ops x f1 T = some (.go f2 S2) ∧ Upd f1 x.dst vx f2) → ∃ f2, stepE C h nt ops x f1 T = some (.go f2 S2) ∧ Eqv f2 e2 := by
    intro vy f1 T u1 u2 ⟨f2, q1, q2⟩
    refine ⟨f2, q1, fun t => ?_⟩
    rw [q2 t, u2 t, u1 t, ux t]
    by_cases hd : x.dst = some t
    · have : y.dst ≠ some t := a2 t hd
      simp [hd, this]
    · simp [hd]
  have updx : ∀ {v : Option AV} {f1 f2 : Env}, Upd e x.dst v e1 → Upd f1 x.dst v f2 → Upd f1 x.dst vx f2 := fun u u' => by
    intro t
    rw [u' t]
    by_cases hd : x.dst = some t
    · have q1 := u t; have q2 := ux t; rw [if_pos hd] at q1 q2; simp [hd, ← q1, ← q2]
    · simp [hd]
  simp only [okK, Bool.or_eq_true, Bool.and_eq_true] at hcl
  rcases hcl with ((q | q) | ⟨q, q2⟩) | ⟨q, q2⟩
  · -- x does the same everywhere
    have hq0 := Nat.eq_of_beq_eq_true q
    obtain ⟨v0, z0⟩ := zx.zero hq0
    have hS : S1 = S ∧ Upd e x.dst v0 e1 := by
      obtain ⟨e1', g1, g2⟩ := z0 e (fun _ _ => rfl) S
      rw [hx] at g1
      simp only [Option.some.injEq, Stp.go.injEq] at g1
      exact ⟨g1.2, by rw [g1.1]; exact g2⟩
    obtain ⟨rfl, hu⟩ := hS
    obtain ⟨vy, f1, k1, k2, k3⟩ := step_congr hy hyl
    obtain ⟨f2, g1, g2⟩ := z0 f1 (xl k3) S2
    obtain ⟨f2', m1, m2⟩ := fin k2 k3 ⟨f2, g1, updx hu g2⟩
    exact ⟨f1, S2, f2', k1, m1, m2, zy', zx.agree (xl k3), py, fun q => by omega⟩
  · have hq0 := Nat.eq_of_beq_eq_true q
    obtain ⟨v0, z0⟩ := zy.zero hq0
    have hS : S2 = S1 ∧ Upd e1 y.dst v0 e2 := by
      obtain ⟨e1', g1, g2⟩ := z0 e1 (fun _ _ => rfl) S1
      rw [hy] at g1
      simp only [Option.some.injEq, Stp.go.injEq] at g1
      exact ⟨g1.2, by rw [g1.1]; exact g2⟩
    obtain ⟨rfl, hu⟩ := hS
    obtain ⟨f1, k1, k3⟩ := z0 e hyl S
    obtain ⟨v3, f2, g1, g2, g3⟩ := step_congr hx (xl k3)
    obtain ⟨f2', m1, m2⟩ := fin hu k3 ⟨f2, g1, updx g2 g3⟩
    exact ⟨f1, S, f2', k1, m1, m2, zy', zx.agree (xl k3), fun q => by omega, px⟩
  · have hq1 := Nat.eq_of_beq_eq_true q
    obtain ⟨hx1, hx2'⟩ := zx.one hq1
    have e1S := step1 hx1 hx
    subst e1S
    obtain ⟨vy, f1, k1, k2, k3⟩ := step_congr hy hyl
    have hx2 : ∃ f2, stepE C h nt ops x f1 S2 = some (.go f2 S2) ∧ Upd f1 x.dst vx f2 := by
      have hat : stepE C h nt ops x e S2 = some (.go e1 S2) := by
        try simp only [Bool.or_eq_true] at q2
        rcases q2 with (q2 | q2) | q2
        · have := step1 (zy.one (Nat.eq_of_beq_eq_true q2)).1 hy
          subst this; exact hx
        · rcases step_new (zy.three (Nat.eq_of_beq_eq_true q2)) hy with r | ⟨r1, cs, r2⟩
          · subst r; exact hx
          · subst r2; exact step_read_new hx1 r1 hx
        · exact step_keep hx1 (fun id hid => py (Nat.eq_of_beq_eq_true q2) id (hx2' id hid)) hx
      obtain ⟨v3, f2, g1, g2, g3⟩ := step_congr hat (xl k3)
      exact ⟨f2, g1, updx g2 g3⟩
    obtain ⟨f2', m1, m2⟩ := fin k2 k3 hx2
    exact ⟨f1, S2, f2', k1, m1, m2, zy', zx.agree (xl k3), py, fun q => by omega⟩
  · -- a write, then a look
    have hq4 := Nat.eq_of_beq_eq_true q
    have hq1 := Nat.eq_of_beq_eq_true q2
    obtain ⟨hy1, hy2⟩ := zy'.one hq1
    have e2S := step1 hy1 hy
    subst e2S
    obtain ⟨vy, f0, k1, k2, k3⟩ := step_congr hy hyl
    have hyS : stepE C h nt ops y e S = some (.go f0 S) := step_keep (S := S2) (S2 := S) hy1 (fun id hid => (px hq4 id (hy2 id hid)).symm) k1
    obtain ⟨v3, f2, g1, g2, g3⟩ := step_congr hx (xl k3)
    obtain ⟨f2', m1, m2⟩ := fin k2 k3 ⟨f2, g1, updx g2 g3⟩
    exact ⟨f0, S, f2', hyS, m1, m2, zy', zx.agree (xl k3), fun q => by omega, px⟩

end
end Go.Ev


namespace Go.Ev
noncomputable section
set_option linter.unusedVariables false
set_option linter.unusedSimpArgs false

section
variable {C : Cfg} {h : Hand} {nt : Nat} {ops : Array Oper} {I : List Nat} {K : Nat → Nat}

/-- Operations by their numbers, carried out one behind the other. -/
inductive Run (C : Cfg) (h : Hand) (nt : Nat) (ops : Array Oper) (I : List Nat) (K : Nat → Nat) : List Nat → Env → St → Env → St → Prop
  | nil (e : Env) (S : St) : Run C h nt ops I K [] e S e S
  | cons (i : Nat) (l : List Nat) (o : Oper) (e e1 e2 : Env) (S S1 S2 : St) (ho : ops[i]? = some o) (hs : stepE C h nt ops o e S = some (.go e1 S1)) (hk : KOk C h nt ops I o e (K i)) (hp : Keep I (K i) S S1) (hr : Run C h nt ops I K l e1 S1 e2 S2) : Run C h nt ops I K (i :: l) e S e2 S2

theorem Run.congr : ∀ (l : List Nat) {e e2 e' : Env} {S S' : St}, Eqv e2 e → Run C h nt ops I K l e S e' S' → ∃ e2', Run C h nt ops I K l e2 S e2' S' ∧ Eqv e2' e'
  | [], e, e2, e', S, S', hq, hv => by cases hv; exact ⟨e2, .nil _ _, hq⟩
  | i :: l, e, e2, e', S, S', hq, hv => by
    cases hv with
    | cons _ _ o _ e1 _ _ S1 _ ho hs hk hp hr =>
      obtain ⟨x, e3, k1, k2, k3⟩ := step_congr hs (e2 := e2) (fun t _ => hq t)
      obtain ⟨e4, m1, m2⟩ := Run.congr l (e2 := e3) (fun t => by rw [k3 t, k2 t, hq t]) hr
      exact ⟨e4, .cons i l o _ _ _ _ _ _ ho k1 (hk.agree (fun t _ => hq t)) hp m1, m2⟩

theorem bubble : ∀ (l1 l2 : List Nat) (i : Nat) {o : Oper} {e e' : Env} {S S' : St}, ops[i]? = some o → (∀ k ∈ l1, ∀ x, ops[k]? = some x → x.apart ops o = true ∧ okK (K k) (K i) = true) → Run C h nt ops I K (l1 ++ i :: l2) e S e' S' →
    ∃ e1 S1 e2, stepE C h nt ops o e S = some (.go e1 S1) ∧ KOk C h nt ops I o e (K i) ∧ Keep I (K i) S S1 ∧ Run C h nt ops I K (l1 ++ l2) e1 S1 e2 S' ∧ Eqv e2 e'
  | [], l2, i, o, e, e', S, S', ho, _, hv => by
    cases hv with
    | cons _ _ o' _ e1 _ _ S1 _ ho' hs hk hp hr =>
      rw [ho] at ho'; cases ho'
      exact ⟨e1, S1, e', hs, hk, hp, hr, fun _ => rfl⟩
  | k :: l1, l2, i, o, e, e', S, S', ho, hok, hv => by
    rw [List.cons_append] at hv
    cases hv with
    | cons _ _ x _ ek _ _ Sk _ hx hs hk hp hr =>
      obtain ⟨e1, S1, e2, k1, kk, kp, k2, k3⟩ := bubble l1 l2 i ho (fun k hk => hok k (by simp [hk])) hr
      obtain ⟨g1, g2⟩ := hok k (by simp) x hx
      obtain ⟨f1, T1, f2, c1, c2, c3, c4, c5, c6, c7⟩ := commute g1 g2 hk kk hp kp hs k1
      obtain ⟨e3, m1, m2⟩ := Run.congr (l1 ++ l2) c3 k2
      exact ⟨f1, T1, e3, c1, c4, c6, .cons k _ x _ _ _ _ _ _ hx c2 c5 c7 m1, fun t => (m2 t).trans (k3 t)⟩

/-- The kind of what was done. -/
def kindOf (I : List Nat) (d : Did) : Nat := bif Nat.beq d.k 2 then (bif I.all (sameAt d.S d.S') then 4 else 2) else d.k

theorem kindOf_ne {I : List Nat} {d : Did} {k : Nat} (h : kindOf I d = k) (h2 : k ≠ 2) (h4 : k ≠ 4) : d.k = k := by
  unfold kindOf at h
  cases hb : Nat.beq d.k 2 with
  | false => rw [hb] at h; exact h
  | true =>
    rw [hb] at h
    simp only [cond_true] at h
    cases hc : I.all (sameAt d.S d.S') <;> rw [hc] at h <;> simp at h <;> omega

theorem kOf_lt (C : Cfg) (ops : Array Oper) (o : Oper) (e e' : Env) (S : St) : kOf C ops o e e' S ≠ 4 := by
  unfold kOf
  split
  · omega
  · split
    · omega
    · rcases kTail_or C ops o e e' S with q | q <;> omega

theorem evOpsK_run (hp : PureOk h) : ∀ (l : List Oper) (k : Nat) {e e' : Env} {S S' : St} {ks : List Did}, (∀ j, l[j]? = ops[k + j]?) → evOpsK C h nt ops l e S = some (ks, e', S') → (∀ j d, ks[j]? = some d → K (k + j) = kindOf I d) →
    (∀ d ∈ ks, ∀ id ∈ d.ids, id ∈ I) → Run C h nt ops I K ((List.range l.length).map (k + ·)) e S e' S' ∧ ks.length = l.length
  | [], k, e, e', S, S', ks, _, hv, hK, hI => by
    simp only [evOpsK, Option.some.injEq, Prod.mk.injEq] at hv
    obtain ⟨rfl, rfl, rfl⟩ := hv
    exact ⟨.nil _ _, rfl⟩
  | o :: l, k, e, e', S, S', ks, hl, hv, hK, hI => by
    have h0 : ops[k]? = some o := by simpa using (hl 0).symm
    rw [List.length_cons, List.range_succ_eq_map, List.map_cons, Nat.add_zero, List.map_map]
    simp only [evOpsK] at hv
    split at hv
    · rename_i e1 S1 hs
      split at hv
      · rename_i ks' e2 S2 hr
        simp only [Option.some.injEq, Prod.mk.injEq] at hv
        obtain ⟨rfl, rfl, rfl⟩ := hv
        have hf : ((fun x => k + x) ∘ Nat.succ) = (fun x => k + 1 + x) := by funext x; simp; omega
        rw [hf]
        obtain ⟨r1, r2⟩ := evOpsK_run hp l (k + 1) (fun j => by have := hl (j + 1); simpa [Nat.add_assoc, Nat.add_comm 1 j] using this) hr (fun j d hj => by
          have := hK (j + 1) d (by simpa using hj)
          rw [show k + 1 + j = k + (j + 1) by omega, this]) (fun d hd => hI d (by simp [hd]))
        have hk0 := hK 0 _ rfl
        rw [Nat.add_zero] at hk0
        refine ⟨.cons k _ o _ _ _ _ _ _ h0 hs ⟨fun q => step_k hp hs (kindOf_ne (hk0.symm.trans q) (by omega) (by omega)), fun q => ⟨kOf_one (kindOf_ne (hk0.symm.trans q) (by omega) (by omega)), fun id hid => hI _ List.mem_cons_self id hid⟩,
          fun q => kOf_new (kindOf_ne (hk0.symm.trans q) (by omega) (by omega))⟩ (fun q id hid => ?_) r1, by simp [r2]⟩
        have hq := hk0.symm.trans q
        unfold kindOf at hq
        simp only at hq
        cases hb : Nat.beq (kOf C ops o e e1 S) 2 with
        | false => rw [hb] at hq; exact absurd hq (kOf_lt C ops o e e1 S)
        | true =>
          rw [hb] at hq
          simp only [cond_true] at hq
          cases hc : I.all (sameAt S S1) with
          | false => rw [hc] at hq; cases hq
          | true => exact sameAt_eq (List.all_eq_true.1 hc id hid)
      · cases hv
    · cases hv
end

/-- A region whose edges are in order. -/
def regOk (ops : Array Oper) : Bool :=
  let B := Region.before ops
  (List.range ops.size).all fun i => match ops[i]? with
    | none => false
    | some o => Nat.blt (B.getD i 0) (2 ^ i) && (o.after.all fun e => !Region.binds .any e || Nat.blt e.on i) &&
      (List.range i).all fun k => match ops[k]? with
        | none => false
        | some x => if (B.getD i 0).testBit k then (o.after.any fun e => Region.binds .any e && (Nat.beq e.on k || (B.getD e.on 0).testBit k)) else x.apart ops o

theorem regOk_spec {ops : Array Oper} (hr : regOk ops = true) {i : Nat} {o : Oper} (hi : ops[i]? = some o) :
    (∀ e ∈ o.after, Region.binds .any e = true → e.on < i) ∧
    (∀ k x, k < i → ops[k]? = some x → if ((Region.before ops).getD i 0).testBit k = true then ∃ e ∈ o.after, Region.binds .any e = true ∧ (e.on = k ∨ ((Region.before ops).getD e.on 0).testBit k = true) else x.apart ops o = true) ∧ ∀ k, i ≤ k → ((Region.before ops).getD i 0).testBit k = false := by
  have hlt : i < ops.size := (Array.getElem?_eq_some_iff.1 hi).1
  simp only [regOk, List.all_eq_true, List.mem_range] at hr
  have h1 := hr i hlt
  rw [hi] at h1
  simp only [Bool.and_eq_true] at h1
  obtain ⟨⟨h0, h1⟩, h2⟩ := h1
  refine ⟨fun e he hb => ?_, fun k x hk hx => ?_, fun k hk => Nat.testBit_lt_two_pow (Nat.lt_of_lt_of_le (Nat.le_of_ble_eq_true h0) (Nat.pow_le_pow_right (by omega) hk))⟩
  · have := Array.all_eq_true_iff_forall_mem.1 h1 e he
    simp only [hb, Bool.not_true, Bool.false_or] at this
    exact Nat.le_of_ble_eq_true this
  · rw [List.all_eq_true] at h2
    have := h2 k (List.mem_range.2 hk)
    rw [hx] at this
    simp only at this
    split at this
    · rename_i hb
      rw [if_pos hb]
      obtain ⟨e, he, hq⟩ := Array.any_eq_true'.1 this
      simp only [Bool.and_eq_true, Bool.or_eq_true] at hq
      exact ⟨e, he, hq.1, hq.2.imp (fun q => Nat.eq_of_beq_eq_true q) id⟩
    · rename_i hb
      rw [if_neg hb]; exact this

/-- What has come up is closed under what must come ahead. -/
def Closed (ops : Array Oper) (listed : Array Bool) : Prop := ∀ j, listed.getD j false = true → ∀ k, k < j → ((Region.before ops).getD j 0).testBit k = true → listed.getD k false = true

theorem draw_any {R : ObjR} {C : Cfg} (hR : ObjOkC R C) {h : Hand} (hh : HandOk R C.P h) {nt : Nat} {ops : Array Oper} (hr : regOk ops = true) {I : List Nat} {K : Nat → Nat} (hK : ∀ i k, k < i → i < ops.size → ((Region.before ops).getD i 0).testBit k = true ∨ okK (K k) (K i) = true) {Q : Exit → Act → World → Prop} :
    ∀ (fuel : Nat) (listed : Array Bool) {cx : Cx} {S S' : St} {w : World} {e e' : Env} {a : Act}, listed.size = ops.size → Closed ops listed →
    ((List.range ops.size).filter fun i => !listed.getD i false).length = fuel → Run C h nt ops I K ((List.range ops.size).filter fun i => !listed.getD i false) e S e' S' → SRel R cx S w → ERel cx S w nt e a →
    (∀ cx' a' w' e'', SRel R cx' S' w' → Ext cx S w cx' S' w' → ERel cx' S' w' nt e'' a' → Eqv e'' e' → a'.defers = a.defers → Q .normal a' w') → wpAny C.P .any ops Q fuel listed a w := by
  intro fuel
  induction fuel with
  | zero =>
    intro listed cx S S' w e e' a hsz hcl hlen hev hS he hk
    have hnil := List.eq_nil_of_length_eq_zero hlen
    rw [hnil] at hev
    cases hev
    refine ⟨?_, hk cx a w e hS (Ext.refl w hS.wf) he (fun _ => rfl) rfl⟩
    cases hq : Region.ready .any ops listed with
    | nil => rfl
    | cons i l =>
      have hi : i ∈ Region.ready .any ops listed := by rw [hq]; simp
      obtain ⟨h1, o, h2, _⟩ := mem_ready.1 hi
      have hlt : i < ops.size := (Array.getElem?_eq_some_iff.1 h2).1
      have : i ∈ (List.range ops.size).filter fun i => !listed.getD i false := by
        rw [List.mem_filter]
        refine ⟨List.mem_range.2 hlt, ?_⟩
        have hlt' : i < listed.size := by omega
        simp [hlt'] at h1 ⊢; exact h1
      rw [hnil] at this; cases this
  | succ fuel ih =>
    intro listed cx S S' w e e' a hsz hcl hlen hev hS he hk
    have step : ∀ i ∈ Region.ready .any ops listed, wpOp C.P ops Q i (wpAny C.P .any ops Q fuel (listed.setIfInBounds i true)) a w := by
      intro i hi
      obtain ⟨h1, o, h2, h3⟩ := mem_ready.1 hi
      have hlt : i < ops.size := (Array.getElem?_eq_some_iff.1 h2).1
      have hlt' : i < listed.size := by omega
      have h1' : listed.getD i false = false := by simp [hlt'] at h1 ⊢; exact h1
      obtain ⟨r1, r2, _⟩ := regOk_spec hr h2
      have hclo : ∀ k, k < i → ((Region.before ops).getD i 0).testBit k = true → listed.getD k false = true := by
        intro k hk hb
        have hkx : ∃ x, ops[k]? = some x := ⟨ops[k], by simp [show k < ops.size by omega]⟩
        obtain ⟨x, hx⟩ := hkx
        have := r2 k x hk hx
        rw [if_pos hb] at this
        obtain ⟨ed, he, hbnd, hor⟩ := this
        rcases hor with q | q
        · rw [← q]; exact h3 ed he hbnd
        · by_cases hke : k < ed.on
          · exact hcl ed.on (h3 ed he hbnd) k hke q
          · rcases Nat.lt_or_ge ed.on k with q1 | q1
            · -- a bit above: from the check at ed.on
              exfalso
              have hel : ed.on < ops.size := by have := r1 ed he hbnd; omega
              have := (regOk_spec hr (show ops[ed.on]? = some ops[ed.on] by simp [hel])).2.2 k (by omega)
              rw [this] at q; cases q
            · have : k = ed.on := by omega
              rw [this]; exact h3 ed he hbnd
      have hmem : i ∈ (List.range ops.size).filter fun i => !listed.getD i false := by
        rw [List.mem_filter]; exact ⟨List.mem_range.2 hlt, by rw [h1']; rfl⟩
      obtain ⟨l1, l2, hsp⟩ := List.append_of_mem hmem
      have hpw : ((List.range ops.size).filter fun i => !listed.getD i false).Pairwise (· < ·) := List.Pairwise.filter _ List.pairwise_lt_range
      rw [hsp] at hpw
      obtain ⟨p1, p2, p3⟩ := List.pairwise_append.1 hpw
      have hlt1 : ∀ k ∈ l1, k < i := fun k hk => p3 k hk i (by simp)
      have hgt2 : ∀ k ∈ l2, i < k := fun k hk => (List.pairwise_cons.1 p2).1 k hk
      rw [hsp] at hev
      obtain ⟨e1, S1, e2, b1, _, _, b2, b3⟩ := bubble l1 l2 i h2 (fun k hk x hx => by
        have hki := hlt1 k hk
        have hkl : listed.getD k false = false := by
          have : k ∈ (List.range ops.size).filter fun i => !listed.getD i false := by rw [hsp]; simp [hk]
          simpa using (List.mem_filter.1 this).2
        have := r2 k x hki hx
        split at this
        · rename_i hb
          have := hclo k hki hb
          rw [hkl] at this; cases this
        · rename_i hnb
          exact ⟨this, (hK i k hki hlt).resolve_left hnb⟩) hev
      have hrest : (List.range ops.size).filter (fun j => !(listed.setIfInBounds i true).getD j false) = l1 ++ l2 := by
        have : (fun j => !(listed.setIfInBounds i true).getD j false) = (fun j => (!listed.getD j false) && decide (j ≠ i)) := by
          funext j
          by_cases hj : i = j
          · subst hj; simp [hlt']
          · rw [getD_set_ne false hj]; simp [Ne.symm hj]
        rw [this, ← List.filter_filter]
        have hcomm : ∀ (l : List Nat) (p q : Nat → Bool), (l.filter p).filter q = (l.filter q).filter p := fun l p q => by
          rw [List.filter_filter, List.filter_filter]; congr 1; funext a; exact Bool.and_comm _ _
        rw [hcomm, hsp, List.filter_append, List.filter_cons]
        simp only [ne_eq, not_true_eq_false, decide_false, Bool.false_eq_true, if_false]
        congr 1
        · rw [List.filter_eq_self]; intro k hk; simp; have := hlt1 k hk; omega
        · rw [List.filter_eq_self]; intro k hk; simp; have := hgt2 k hk; omega
      refine step_sound hR hh b1 hS he (fun cx1 a1 w1 s1 x1 er1 d1 => ?_) h2
      refine ih (listed.setIfInBounds i true) (cx := cx1) (S := S1) (S' := S') (w := w1) (e := e1) (e' := e2) (by simpa using hsz) (fun j hj k hkj hb => ?_) ?_ (by rw [hrest]; exact b2) s1 er1 (fun cx' a' w' e'' q1 q2 q3 q4 q5 => hk cx' a' w' e'' q1 (x1.trans q2) q3 (fun t => (q4 t).trans (b3 t)) (q5.trans d1))
      · by_cases hij : i = j
        · subst hij
          exact getD_set_true (hclo k hkj hb)
        · rw [getD_set_ne false hij] at hj
          exact getD_set_true (hcl j hj k hkj hb)
      · rw [hrest]
        have := hlen
        rw [hsp] at this
        simp at this ⊢; omega
    refine ⟨fun hnone => ?_, step⟩
    exfalso
    -- the least that is left is ready
    cases hq : (List.range ops.size).filter fun i => !listed.getD i false with
    | nil => rw [hq] at hlen; simp at hlen
    | cons m l =>
      have hm : m ∈ (List.range ops.size).filter fun i => !listed.getD i false := by rw [hq]; simp
      obtain ⟨hm1, hm2⟩ := List.mem_filter.1 hm
      have hmlt := List.mem_range.1 hm1
      have hmo : ops[m]? = some ops[m] := by simp [hmlt]
      have hpw : ((List.range ops.size).filter fun i => !listed.getD i false).Pairwise (· < ·) := List.Pairwise.filter _ List.pairwise_lt_range
      rw [hq] at hpw
      have hmin := (List.pairwise_cons.1 hpw).1
      have hready : m ∈ Region.ready .any ops listed := by
        rw [mem_ready]
        refine ⟨by have : m < listed.size := by omega
                   simp [this] at hm2 ⊢; exact hm2, ops[m], hmo, fun ed he hb => ?_⟩
        have hon := (regOk_spec hr hmo).1 ed he hb
        cases hc : listed.getD ed.on false with
        | true => rfl
        | false =>
          have : ed.on ∈ (List.range ops.size).filter fun i => !listed.getD i false := by
            rw [List.mem_filter]; exact ⟨List.mem_range.2 (by omega), by rw [hc]; rfl⟩
          rw [hq] at this
          rcases List.mem_cons.1 this with q | q
          · omega
          · have := hmin _ q; omega
      rw [hnone] at hready
      cases hready

end
end Go.Ev


namespace Go.Ev
noncomputable section
set_option linter.unusedVariables false
set_option linter.unusedSimpArgs false

theorem run_next_at {P : Program} {w : World} (ty b bm since c0 : Nat) (seen : Array Nat) (es : Array MapEntry) (clock : Nat) (hb : w.heap[b]? = some (.mapIter (some bm) since seen c0)) (hm : w.heap[bm]? = some (.map es clock))
    (hold : ∀ x ∈ es.toList, x.born < since) (hsc : since ≤ c0) :
    ((∀ e ∈ es.toList, seen.contains e.born = true) ∧ (Instr.next (.pointer (some ⟨b, 0, none⟩)) false ty).run P w = .ok (.tuple #[.bool false]) w) ∨
    ∃ e ∈ es.toList, seen.contains e.born = false ∧ ∃ w1 : World, w1.heap = w.heap ∧ w1.os = w.os ∧ w1.output = w.output ∧ w1.tape = w.tape ∧
      (Instr.next (.pointer (some ⟨b, 0, none⟩)) false ty).run P w = .ok (.tuple #[.bool true, e.key, e.val]) { w1 with heap := w1.heap.setIfInBounds b (.mapIter (some bm) since (seen.push e.born) clock) } := by
  simp only [Instr.next, getObj, Sem.run_bind, Sem.run, hb, hm, Result.andThen, next_test_false seen es since c0 hold hsc, Bool.false_eq_true, if_false]
  have hmem : ∀ x ∈ (Array.filter (fun e => !seen.contains e.born) es).toList, x ∈ es.toList ∧ seen.contains x.born = false := fun x hx => by
    simp at hx ⊢
    exact hx
  have hemp : Array.filter (fun e => !seen.contains e.born) es = #[] → ∀ e ∈ es.toList, seen.contains e.born = true := fun h e he => by
    rw [Array.filter_eq_empty_iff] at h
    have := h e (by simpa using he)
    simpa using this
  generalize Array.filter (fun e => !seen.contains e.born) es = L at hmem hemp ⊢
  have e1 : L.filter (fun x => decide (x.born < since)) = L := Array.filter_eq_self.2 (fun x hx => by simpa using hold x (hmem x (by simpa using hx)).1)
  have e2 : L.filter (fun x => decide (x.born ≥ since)) = #[] := by
    rw [Array.filter_eq_empty_iff]
    intro x hx
    have := hold x (hmem x (by simpa using hx)).1
    simp
    omega
  simp only [e1, e2, Array.append_empty]
  by_cases h0 : L.size = 0
  · left
    have : L = #[] := Array.eq_empty_of_size_eq_zero h0
    subst this
    refine ⟨hemp rfl, ?_⟩
    simp [choose, Sem.run, Question.forced]
  · right
    have hne : L.isEmpty = false := by simp [Array.isEmpty, h0]
    simp only [hne, Bool.false_eq_true, if_false, Array.empty_append, Array.size_map]
    have hch : ∃ (j : Nat) (w1 : World), j < L.size ∧ (w1.heap = w.heap ∧ w1.os = w.os ∧ w1.output = w.output ∧ w1.tape = w.tape) ∧ (choose (Question.mapNext L.size)).run P w = .ok j w1 := by
      by_cases hf : L.size ≤ 1
      · exact ⟨0, w, by omega, ⟨rfl, rfl, rfl, rfl⟩, by simp [choose, Sem.run, Question.forced, hf]⟩
      · exact ⟨_, w.drew, Nat.mod_lt _ (by omega), ⟨rfl, rfl, rfl, rfl⟩, by
          simp only [choose, Sem.run, Question.forced, decide_eq_true_eq, hf, if_false, Question.cut]
          rfl⟩
    obtain ⟨j, w1, hj, hal, hrun⟩ := hch
    have hLj : L[j] ∈ L.toList := by simp
    refine ⟨L[j], (hmem _ hLj).1, (hmem _ hLj).2, w1, hal.1, hal.2.1, hal.2.2.1, hal.2.2.2, ?_⟩
    have hlt : b < w1.heap.size := by rw [hal.1]; exact (Array.getElem?_eq_some_iff.1 hb).1
    have hb1 : w1.heap[b]? = some (.mapIter (some bm) since seen c0) := by rw [hal.1]; exact hb
    have hset : ∀ (o' : Obj), (setObj b o').run P w1 = .ok () { w1 with heap := w1.heap.setIfInBounds b o' } := fun o' => by
      simp only [setObj, Sem.run, hb1]
      try rfl
    simp only [hrun, Array.getElem?_map, Array.getElem?_eq_getElem hj, Option.map_some, Sem.run_bind, hset, Result.andThen]
    rfl

theorem run_next_nil {P : Program} {w : World} (ty b : Nat) (hb : w.heap[b]? = some (.mapIter none 0 #[] 0)) :
    (Instr.next (.pointer (some ⟨b, 0, none⟩)) false ty).run P w = .ok (.tuple #[.bool false]) w := by
  simp only [Instr.next, getObj, Sem.run_bind, Sem.run, hb, Result.andThen]
  rfl

/-- What is asked of what makes calls that may come to several things. -/
def HandOkL (R : ObjR) (P : Program) (h : HandL) : Prop :=
  ∀ f args S rs, h f args S = some rs → (∃ fn, P.funcs[f]? = some fn ∧ fn.body.isSome = true ∧ fn.name ≠ "runtime.NumGoroutine") ∧
    ∀ cx w (us : List Value), SRel R cx S w → us.length = args.length → (∀ (i : Nat) (x : AV) (u : Value), args[i]? = some x → us[i]? = some u → ARel cx S w x u) →
    Calls P f us.toArray w (fun e w' => ∃ r ∈ rs, ∃ cx', SRel R cx' r.2.2 w' ∧ Ext cx S w cx' r.2.2 w' ∧ EndOk cx' r.2.2 w' r.1 r.2.1 e)

theorem noHand_ok {R : ObjR} {P : Program} : HandOk R P noHand := fun f args S p v S' h => by cases h

theorem det_ok {R : ObjR} {P : Program} {h : HandL} (hh : HandOkL R P h) : HandOk R P (det h) := by
  intro f args S p v S' hd
  unfold det at hd
  split at hd
  · rename_i r hr
    simp only [Option.some.injEq] at hd
    subst hd
    obtain ⟨h1, h2⟩ := hh f args S _ hr
    refine ⟨h1, fun cx w us hS hl hu => (h2 cx w us hS hl hu).mono fun e w' he => ?_⟩
    obtain ⟨r', hr', cx', k⟩ := he
    simp only [List.mem_singleton] at hr'
    subst hr'
    exact ⟨cx', k⟩
  · cases hd

theorem mapO_mem {α β : Type} {f : α → Option β} : ∀ {l : List α} {rs : List β}, mapO f l = some rs → ∀ x ∈ l, ∃ r, f x = some r ∧ r ∈ rs
  | [], _, _, x, hx => by cases hx
  | y :: l, rs, h, x, hx => by
    simp only [mapO] at h
    split at h
    · rename_i z hz
      simp only [Option.map_eq_some_iff] at h
      obtain ⟨zs, hzs, rfl⟩ := h
      rcases List.mem_cons.1 hx with rfl | hx
      · exact ⟨z, hz, by simp⟩
      · obtain ⟨r, h1, h2⟩ := mapO_mem hzs x hx
        exact ⟨r, h1, List.mem_cons_of_mem _ h2⟩
    · cases h

theorem bindL_mem {α β : Type} {f : α → Option (List β)} : ∀ {l : List α} {rs : List β}, bindL f l = some rs → ∀ x ∈ l, ∃ r, f x = some r ∧ ∀ y ∈ r, y ∈ rs
  | [], _, _, x, hx => by cases hx
  | y :: l, rs, h, x, hx => by
    simp only [bindL] at h
    split at h
    · rename_i z hz
      split at h
      · rename_i zs hzs
        simp only [Option.some.injEq] at h
        subst h
        rcases List.mem_cons.1 hx with rfl | hx
        · exact ⟨z, hz, fun y hy => List.mem_append.2 (.inl hy)⟩
        · obtain ⟨r, h1, h2⟩ := bindL_mem hzs x hx
          exact ⟨r, h1, fun y hy => List.mem_append.2 (.inr (h2 y hy))⟩
      · cases h
    · cases h

/-- One step of an iterator. -/
theorem next_sound {R : ObjR} {C : Cfg} (hR : ObjOkC R C) {cx : Cx} {S : St} {w : World} {nt : Nat} {e : Env} {a : Act} {ops : Array Oper} {o : Oper} {t : Nat} {rs : List Stp} (hop : o.op = .next (.tmp t) false)
    (hs : nextL nt o t e S = some rs) (hS : SRel R cx S w) (he : ERel cx S w nt e a) {K : Act → World → Prop} {Q : Exit → Act → World → Prop} (hk : ∀ r ∈ rs, After R cx S w nt a K Q r) {i : Nat} (hi : ops[i]? = some o) :
    wpOp C.P ops Q i K a w := by
  unfold nextL at hs
  have hrefl := Ext.refl (cx := cx) w hS.wf
  have enter : o.guard = none → (∃ v w', (Instr.next (a.eval (.tmp t)) false o.type).run C.P w = .ok v w' ∧ K (a.put o.dst v) w') → wpOp C.P ops Q i K a w := by
    intro hg ⟨v, w', h1, h2⟩
    unfold wpOp
    rw [hi]
    simp only
    rw [if_pos (by unfold Region.wanted; rw [hg])]
    left
    unfold Oper.wp
    have hq : (execOp a.eval o).run C.P w = .ok (.value v) w' := by
      obtain ⟨dst, op, ty, pos, after, guard⟩ := o
      simp only at hop
      subst hop
      exact exV h1
    rw [hq]
    exact h2
  split at hs
  · rename_i k g since seen st hg ht
    split at hs
    · rename_i c hc
      split at hs
      · rename_i hcg
        subst hcg
        simp only [Option.map_eq_some_iff] at hs
        obtain ⟨e', hp, rfl⟩ := hs
        obtain ⟨u, h1, h2⟩ := he.rel t _ ht
        have hev : a.eval (.tmp t) = u := by simp [Act.eval, h1]
        cases h2 with
        | it0 _ _ _ _ b _ hn hpos =>
        obtain ⟨_, _, _, hb⟩ := hpos hc
        refine enter hg ⟨.tuple #[.bool false], w, ?_, ?_⟩
        · rw [hev]; exact run_next_nil _ b hb
        · refine hk (.go e' S) (by simp) cx _ w hS hrefl (he.put hp ?_) (put_defers _ _ _)
          refine .tup [.d (.bool false)] [.bool false] rfl (fun j x u hx hu => ?_)
          match j, hx, hu with
          | 0, hx, hu => simp at hx hu; subst hx; subst hu; exact .of_bool _
      · cases hs
    · cases hs
  · rename_i k g id since seen st hg ht
    split at hs
    · rename_i M c hM hc
      split at hs
      · rename_i hcond
        obtain ⟨hcg, hold, hsc, hnt⟩ := hcond
        subst hcg
        obtain ⟨u, h1, h2⟩ := he.rel t _ ht
        have hev : a.eval (.tmp t) = u := by simp [Act.eval, h1]
        have hidk : id ≠ k := fun q => by subst q; rw [hM] at hc; cases hc
        cases h2 with
        | it _ _ _ _ _ b m _ hn hni hm hpos =>
        have hkg : isIt S k g := hc
        obtain ⟨hbk, hfk, honly, hb⟩ := hpos hkg
        have hm := hm (by simp [cur, hM])
        obtain ⟨c1, c2, ms, clk, c3, ⟨c4, c4', c4''⟩, c5⟩ := hS.maps id M hM
        rw [← hm] at c3
        have hborn : ∀ x ∈ ms.toList, ∃ (j : Nat) (p : D × AV × Nat), M.es[j]? = some p ∧ ms[j]? = some x ∧ x.born = p.2.2 := fun x hx => by
          obtain ⟨j, hj, rfl⟩ := List.getElem_of_mem hx
          have hj' : j < ms.size := by simpa using hj
          have hjm : j < M.es.length := by rw [← c4]; exact hj'
          have hp := List.getElem?_eq_getElem hjm
          refine ⟨j, M.es[j], hp, by simp [hj'], ?_⟩
          exact c4'' j _ _ hp (by simp [hj'])
        have holdm : ∀ x ∈ ms.toList, x.born < since := fun x hx => by
          obtain ⟨j, p, p1, p2, p3⟩ := hborn x hx
          rw [p3]
          exact Nat.le_of_ble_eq_true (List.all_eq_true.1 hold p (List.mem_of_getElem? p1))
        rcases run_next_at (P := C.P) o.type b m since st seen.toArray ms clk hb c3 holdm hsc with ⟨r1, r2⟩ | ⟨x, r1, r2, w1, r3, r4, r5, r6, r7⟩
        · -- nothing is left
          have hnil : M.es.filter (fun p => !(seen.contains p.2.2)) = [] := by
            rw [List.filter_eq_nil_iff]
            intro p hp
            obtain ⟨j, hj, rfl⟩ := List.getElem_of_mem hp
            have hjm : j < ms.size := by rw [c4]; exact hj
            have hb2 := c4'' j _ _ (List.getElem?_eq_getElem hj) (Array.getElem?_eq_getElem hjm)
            have := r1 ms[j] (by simp)
            rw [hb2] at this
            simpa using this
          rw [hnil] at hs
          simp only [Option.map_eq_some_iff] at hs
          obtain ⟨e', hp, rfl⟩ := hs
          refine enter hg ⟨.tuple #[.bool false], w, by rw [hev]; exact r2, ?_⟩
          refine hk (.go e' S) (by simp) cx _ w hS hrefl (he.put hp ?_) (put_defers _ _ _)
          refine .tup [.d (.bool false)] [.bool false] rfl (fun j x u hx hu => ?_)
          match j, hx, hu with
          | 0, hx, hu => simp at hx hu; subst hx; subst hu; exact .of_bool _
        · obtain ⟨j, p, p1, p2, p3⟩ := hborn x r1
          have hpm : p ∈ M.es.filter (fun p => !(seen.contains p.2.2)) := by
            rw [List.mem_filter]
            refine ⟨List.mem_of_getElem? p1, ?_⟩
            rw [p3] at r2
            simpa using r2
          have hs' : mapO (fun p : D × AV × Nat => (Env.put nt ((t, .it k (g + 1) (some id) since (seen ++ [p.2.2]) M.clk) :: e) o.dst (.tup [.d (.bool true), .d p.1, p.2.1])).map fun e' =>
            Stp.go e' { S with H := S.H.set k (.obj 3 (.int .i64 ((g + 1 : Nat) : Int))) }) (M.es.filter (fun p => !(seen.contains p.2.2))) = some rs := by
            split at hs
            · rename_i hnil; rw [hnil] at hpm; cases hpm
            · exact hs
          obtain ⟨rr, q1, q2⟩ := mapO_mem hs' p hpm
          simp only [Option.map_eq_some_iff] at q1
          obtain ⟨e', hp, rfl⟩ := q1
          -- the state behind it
          generalize hS' : ({ S with H := S.H.set k (.obj 3 (.int .i64 ((g + 1 : Nat) : Int))) } : St) = S' at hp q2
          generalize hw' : ({ w1 with heap := w1.heap.setIfInBounds b (.mapIter (some m) since (seen.toArray.push x.born) clk) } : World) = w' at r7
          have hget : S'.H.get k = some (.obj 3 (.int .i64 ((g + 1 : Nat) : Int))) := by rw [← hS']; simp [AL.get_set]
          have hheap : w'.heap = w.heap.setIfInBounds b (.mapIter (some m) since (seen.toArray.push x.born) clk) := by rw [← hw', ← r3]
          have hblt : b < w.heap.size := heap_lt hb
          have hsz : w'.heap.size = w.heap.size := by rw [hheap]; simp
          have hfpk : ∀ c, cx.fp k c ↔ c = b := by
            have := ((hR.toObjOk.it _ _ _ _).1 (hS.objs k 3 _ hc).1).2
            intro c; rw [this c, hbk]
          have hcurk : cur S' k = some (g + 1) := by simp [cur, hget, genD]
          have hnx : S'.nx = S.nx := by rw [← hS']
          have hT : S'.T = S.T := by rw [← hS']
          obtain ⟨k1, k2⟩ := obj_sound hR.toObjOk (cx' := cx) (S' := S') (w' := w') hS hc
            (fun kk xx hx => by rw [hget] at hx; simp only [Option.some.injEq, Blk.obj.injEq] at hx; obtain ⟨_, rfl⟩ := hx; simp only [genD]; omega)
            (fun g' _ => ⟨g, hkg⟩)
            (fun g' h0 h2 => by
              unfold isIt at h0 h2
              rw [hc] at h0
              rw [hget] at h2
              simp only [Option.some.injEq, Blk.obj.injEq, true_and, D.int.injEq] at h0 h2
              omega)
            hT hnx (fun ii hne => by rw [← hS']; simp only [AL.get_set]; rw [if_neg (Ne.symm hne)])
            (.inr ⟨3, _, hget, (hR.toObjOk.it _ _ _ _).2 ⟨by rw [hsz, ← hbk]; exact hblt, fun c => by rw [hfpk c, hbk]⟩⟩)
            (by omega) (by rw [← hw']; exact r4) (by rw [← hw']; exact r6) (by rw [← hw']; exact r5)
            (fun c hc1 hc2 => by
              rw [hheap, Array.getElem?_setIfInBounds_ne (fun q => hc2 ((hfpk c).2 q.symm))])
            (fun _ => rfl) (fun _ _ _ => Iff.rfl) (fun _ => rfl) (fun _ => rfl) (fun c hc1 => .inl hc1)
            (fun c oo hc1 => (hS.objs k 3 _ hc).2 c oo hc1) (fun _ _ q _ => q) (fun _ _ q => q) (fun c oo q => by rw [hsz]; exact hS.lt c oo q)
          have hw2 : w'.heap[b]? = some (.mapIter (some m) since (seen ++ [p.2.2]).toArray M.clk) := by
            rw [hheap, Array.getElem?_setIfInBounds_self, if_pos hblt, c4', p3]
            simp
          have hlive : ∀ ii, cur S' ii ≠ none → cur S ii ≠ none := fun ii hii => by
            by_cases q : ii = k
            · subst q; rw [isIt_cur hkg]; simp
            · unfold cur at hii ⊢
              have : S'.H.get ii = S.H.get ii := by rw [← hS']; simp only [AL.get_set]; rw [if_neg (Ne.symm q)]
              rw [this, hT] at hii
              exact hii
          refine enter hg ⟨.tuple #[.bool true, x.key, x.val], w', by rw [hev]; exact r7, ?_⟩
          refine hk (.go e' S') q2 cx _ w' k1 k2 (ERel.put (e := (t, .it k (g + 1) (some id) since (seen ++ [p.2.2]) M.clk) :: e) ?_ hp ?_) (put_defers _ _ _)
          · refine ⟨he.size, fun t' x' hx' => ?_⟩
            rw [AL.get_cons] at hx'
            by_cases q : t = t'
            · subst q
              rw [if_pos rfl] at hx'
              cases hx'
              refine ⟨_, h1, .it k (g + 1) id since M.clk b m _ ⟨by rw [hnx]; exact hn.1, fun g' hg' => by rw [hcurk] at hg'; cases hg'; exact Nat.le_refl _⟩ (hni.mono k2) (fun hcur => ?_) (fun _ => ⟨hbk, hfk, fun ii hii hf => honly ii (hlive ii hii) hf, hw2⟩)⟩
              exact hm
            · rw [if_neg q] at hx'
              obtain ⟨v, v1, v2⟩ := he.rel t' x' hx'
              exact ⟨v, v1, v2.mono k2⟩
          · obtain ⟨d1, d2⟩ := c5 j p x p1 p2
            refine .tup [.d (.bool true), .d p.1, p.2.1] [.bool true, x.key, x.val] rfl (fun j' x' u' hx' hu' => ?_)
            match j', hx', hu' with
            | 0, hx', hu' => simp at hx' hu'; subst hx'; subst hu'; exact .of_bool _
            | 1, hx', hu' => simp at hx' hu'; subst hx'; subst hu'; exact .d _ _ (d1.mono k2.prot)
            | 2, hx', hu' => simp at hx' hu'; subst hx'; subst hu'; exact d2.mono k2
      · cases hs
    · cases hs
  · cases hs

/-- One operation, whatever its calls come to. -/
theorem stepL_sound {R : ObjR} {C : Cfg} (hR : ObjOkC R C) {h : HandL} (hh : HandOkL R C.P h) {cx : Cx} {S : St} {w : World} {nt : Nat} {e : Env} {a : Act} {ops : Array Oper} {o : Oper} {rs : List Stp}
    (hs : stepL C h nt ops o e S = some rs) (hS : SRel R cx S w) (he : ERel cx S w nt e a) {K : Act → World → Prop} {Q : Exit → Act → World → Prop} (hk : ∀ r ∈ rs, After R cx S w nt a K Q r) {i : Nat} (hi : ops[i]? = some o) :
    wpOp C.P ops Q i K a w := by
  have one : (stepE C noHand nt ops o e S).map ([·]) = some rs → wpOp C.P ops Q i K a w := by
    intro h1
    simp only [Option.map_eq_some_iff] at h1
    obtain ⟨r, h1, rfl⟩ := h1
    exact step_sound hR noHand_ok h1 hS he (hk r (by simp)) hi
  unfold stepL at hs
  split at hs
  · rename_i t hop
    exact next_sound hR hop hs hS he hk hi
  · rename_i c hop
    split at hs
    · rename_i hw
      split at hs
      · rename_i f args ho
        split at hs
        · rename_i os hc
          unfold wpOp
          rw [hi]
          simp only
          rw [if_pos (wanted_sound he hw)]
          left
          obtain ⟨us, h1, h2, h3⟩ := oper_sound hR hS he.eval o ho
          obtain ⟨⟨fn, f1, f2, f3⟩, hcalls⟩ := hh f args S os hc
          unfold Oper.wp
          rw [h3 fn f1 f2 f3]
          refine (hcalls cx w us hS h1 h2).mono (fun en w' hen => ?_)
          obtain ⟨⟨p, v, S'⟩, hr, cx', k1, k2, k3⟩ := hen
          obtain ⟨rr, q1, q2⟩ := mapO_mem hs _ hr
          cases p with
          | none =>
            simp only [Option.map_eq_some_iff] at q1
            obtain ⟨e', hp, rfl⟩ := q1
            obtain ⟨u, rfl, k3⟩ := k3
            exact hk (.go e' S') q2 cx' _ w' k1 k2 ((he.mono k2).put hp k3) (put_defers _ _ _)
          | some p =>
            simp only [Option.some.injEq] at q1
            subst q1
            obtain ⟨u, rfl, k3⟩ := k3
            exact hk (.stop p S') q2 cx' w' u k1 k2 k3
        · cases hs
      · exact one hs
    · exact one hs
  · exact one hs

/-- A region whose order is the text's. -/
theorem opsL_sound {R : ObjR} {C : Cfg} (hR : ObjOkC R C) {h : HandL} (hh : HandOkL R C.P h) {nt : Nat} {ops : Array Oper} {Q : Exit → Act → World → Prop} : ∀ (l : List Oper) (k : Nat) {cx : Cx} {S : St} {w : World} {e : Env} {a : Act} {rs : List Stp},
    (∀ j, l[j]? = ops[k + j]?) → evOpsL C h nt ops l e S = some rs → SRel R cx S w → ERel cx S w nt e a →
    (∀ r ∈ rs, match r with
      | .go e' S' => ∀ cx' a' w', SRel R cx' S' w' → Ext cx S w cx' S' w' → ERel cx' S' w' nt e' a' → a'.defers = a.defers → Q .normal a' w'
      | .stop v S' => ∀ cx' a' w' u, SRel R cx' S' w' → Ext cx S w cx' S' w' → ARel cx' S' w' v u → a'.defers = a.defers → Q (.panic [{ v := u, recovered := false }]) a' w') →
    wpOps C.P ops Q ((List.range l.length).map (k + ·)) a w
  | [], k, cx, S, w, e, a, rs, hl, hev, hS, he, hk => by
    simp only [evOpsL, Option.some.injEq] at hev; subst hev
    exact hk (.go e S) (by simp) cx a w hS (Ext.refl w hS.wf) he rfl
  | o :: l, k, cx, S, w, e, a, rs, hl, hev, hS, he, hk => by
    have h0 : ops[k]? = some o := by simpa using (hl 0).symm
    rw [List.length_cons, List.range_succ_eq_map, List.map_cons, wpOps_cons, Nat.add_zero]
    simp only [evOpsL] at hev
    split at hev
    · rename_i r1 hst
      refine stepL_sound hR hh hst hS he (fun r hr => ?_) h0
      obtain ⟨r2, b1, b2⟩ := bindL_mem hev r hr
      cases r with
      | go e' S' =>
        intro cx1 a1 w1 s1 x1 er1 d1
        simp only at b1
        have ih := opsL_sound hR hh (Q := Q) l (k + 1) (cx := cx1) (S := S') (w := w1) (e := e') (a := a1) (rs := r2) (fun j => by have := hl (j + 1); simpa [Nat.add_assoc, Nat.add_comm 1 j] using this) b1 s1 er1 (fun r hr => by
          have hk' := hk r (b2 r hr)
          cases r with
          | go e2 S2 => exact fun cx' a' w' q1 q2 q3 q4 => hk' cx' a' w' q1 (x1.trans q2) q3 (q4.trans d1)
          | stop v S2 => exact fun cx' a' w' u q1 q2 q3 q4 => hk' cx' a' w' u q1 (x1.trans q2) q3 (q4.trans d1))
        rw [List.map_map]
        have : ((fun x => k + x) ∘ Nat.succ) = (fun x => k + 1 + x) := by funext x; simp; omega
        rw [this]; exact ih
      | stop v S' =>
        simp only [Option.some.injEq] at b1
        subst b1
        exact fun cx1 w1 u s1 x1 r1 => hk (.stop v S') (b2 _ (by simp)) cx1 a w1 u s1 x1 r1 rfl
    · cases hev

end
end Go.Ev


namespace Go.Ev
noncomputable section
set_option linter.unusedVariables false
set_option linter.unusedSimpArgs false

theorem belows_mem {n : Nat} : ∀ {l : List AV}, belows n l = true → ∀ y ∈ l, y.under n = true
  | [], _, y, hy => by cases hy
  | x :: l, h, y, hy => by
    simp only [belows, Bool.and_eq_true] at h
    rcases List.mem_cons.1 hy with rfl | hy
    · exact h.1
    · exact belows_mem h.2 y hy

theorem belowH_get {n : Nat} : ∀ {H : AL Blk}, belowH n H = true → ∀ id b, AL.get H id = some b → (∀ g cs, b = .cells g cs → belows n cs = true) ∧ (∀ es, b = .map es → ∀ p ∈ es.es, p.2.1.under n = true)
  | [], _, id, b, h => by simp [AL.get] at h
  | (k, v) :: l, hb, id, b, h => by
    have hrest : belowH n l = true := by cases v <;> simp only [belowH, Bool.and_eq_true] at hb <;> first | exact hb.2 | exact hb
    rw [AL.get_cons] at h
    by_cases hk : k = id
    · rw [if_pos hk] at h
      cases h
      refine ⟨fun g cs hq => ?_, fun es hq => ?_⟩
      · subst hq; simp only [belowH, Bool.and_eq_true] at hb; exact hb.1
      · subst hq; simp only [belowH, Bool.and_eq_true, List.all_eq_true] at hb; exact hb.1
    · rw [if_neg hk] at h; exact belowH_get hrest id b h

theorem AL.mem_of_get {α : Type} : ∀ {l : AL α} {k : Nat} {v : α}, AL.get l k = some v → (k, v) ∈ l
  | [], k, v, h => by simp [AL.get] at h
  | (a, x) :: l, k, v, h => by
    rw [AL.get_cons] at h
    split at h
    · rename_i hk; cases h; subst hk; simp
    · exact List.mem_cons_of_mem _ (AL.mem_of_get h)

theorem AL.get_of_has {α : Type} : ∀ {l : AL α} {k : Nat}, AL.has l k = true → ∃ v, AL.get l k = some v
  | [], k, h => by cases h
  | (a, x) :: l, k, h => by
    simp only [AL.has] at h
    rw [AL.get_cons]
    by_cases hk : a = k
    · exact ⟨x, by rw [if_pos hk]⟩
    · have : Nat.beq a k = false := by
        cases hb : Nat.beq a k
        · rfl
        · exact absurd (Nat.eq_of_beq_eq_true hb) hk
      rw [this] at h
      obtain ⟨v, hv⟩ := AL.get_of_has h
      exact ⟨v, by rw [if_neg hk]; exact hv⟩

theorem sameEs_eq' : ∀ (l l' : List (D × AV × Nat)), sameEs l l' = true → l = l'
  | [], l', h => by cases l' <;> simp_all [sameEs]
  | (k, v, n) :: l, l', h => by
    cases l' with
    | nil => simp [sameEs] at h
    | cons p l' =>
      obtain ⟨k', v', n'⟩ := p
      simp only [sameEs, Bool.and_eq_true] at h
      rw [Nat.eq_of_beq_eq_true h.1.1.1, D.same_eq _ _ h.1.1.2, AV.same_eq _ _ h.1.2, sameEs_eq' _ _ h.2]

theorem sameBlk_eq {x y : Blk} (h : sameBlk x y = true) : x = y := by
  unfold sameBlk at h
  split at h
  · simp only [Bool.and_eq_true] at h
    rw [Nat.eq_of_beq_eq_true h.1, AV.sames_eq _ _ h.2]
  · rename_i m m'
    simp only [Bool.and_eq_true] at h
    obtain ⟨es, c⟩ := m
    obtain ⟨es', c'⟩ := m'
    simp only at h
    rw [Nat.eq_of_beq_eq_true h.1, sameEs_eq' _ _ h.2]
  · simp only [Bool.and_eq_true] at h
    rw [Nat.eq_of_beq_eq_true h.1, D.same_eq _ _ h.2]
  · cases h

theorem rens_map (l : AL Nat) : ∀ (cs : List AV), rens l cs = cs.map (AV.ren l)
  | [] => rfl
  | x :: cs => by simp [rens, rens_map l cs]

theorem nodupN_inj : ∀ {l : AL Nat}, nodupN (l.map (·.2)) = true → ∀ {i j a : Nat}, (i, a) ∈ l → (j, a) ∈ l → i = j
  | [], _, i, j, a, h, _ => by cases h
  | p :: l, hn, i, j, a, hi, hj => by
    simp only [List.map_cons, nodupN, Bool.and_eq_true, Bool.not_eq_true'] at hn
    have hmem : ∀ {L : List Nat} {x : Nat}, x ∈ L → hasId L x = true := by
      intro L
      induction L with
      | nil => intro x h; cases h
      | cons y L ih =>
        intro x h
        simp only [hasId]
        rcases List.mem_cons.1 h with rfl | h
        · simp
        · rw [ih h]; cases Nat.beq y x <;> rfl
    have hno : ∀ {k : Nat}, (k, p.2) ∉ l := fun {k} hk => by
      have : hasId (l.map (·.2)) p.2 = true := hmem (List.mem_map.2 ⟨(k, p.2), hk, rfl⟩)
      rw [hn.1] at this; cases this
    rcases List.mem_cons.1 hi with hi' | hi' <;> rcases List.mem_cons.1 hj with hj' | hj'
    · rw [← hj'] at hi'; exact (Prod.mk.inj hi').1
    · exact absurd (by rw [← hi']; exact hj') (hno (k := j))
    · exact absurd (by rw [← hj']; exact hi') (hno (k := i))
    · exact nodupN_inj hn.2 hi' hj'

/-- What the test of the numbers says. -/
structure RenF (n0 : Nat) (l : AL Nat) (S S' : St) : Prop where
  lo : ∀ j, j < n0 → rn l j = j
  hi : ∀ j, AL.has l j = true → n0 ≤ rn l j
  nx : n0 ≤ S'.nx
  inj : ∀ i j, AL.has l i = true → AL.has l j = true → rn l i = rn l j → i = j
  hH : ∀ j b, S'.H.get j = some b → j < S'.nx ∧ (j < n0 ∨ AL.has l j = true) ∧ S.H.get (rn l j) = some (b.ren l)
  hT : ∀ j n, S'.T.get j = some n → j < S'.nx ∧ (j < n0 ∨ AL.has l j = true) ∧ S.T.get (rn l j) = some n
  below : belowH S'.nx S'.H = true

theorem renOk_spec {n0 : Nat} {l : AL Nat} {e e' : Env} {S S' : St} (h : renOk n0 l e S e' S' = true) :
    RenF n0 l S S' ∧ ∀ t x, AL.get e' t = some x → x.under S'.nx = true ∧ AL.get e t = some (x.ren l) := by
  simp only [renOk, Bool.and_eq_true, List.all_eq_true] at h
  obtain ⟨⟨⟨⟨⟨⟨h1, h2⟩, h3⟩, h4⟩, h5⟩, h6⟩, h7⟩ := h
  have hval : ∀ j, AL.has l j = true → ∃ i, AL.get l j = some i ∧ rn l j = i ∧ (j, i) ∈ l := fun j hj => by
    obtain ⟨i, hi⟩ := AL.get_of_has hj
    exact ⟨i, hi, by simp [rn, hi], AL.mem_of_get hi⟩
  refine ⟨⟨fun j hj => ?_, fun j hj => ?_, Nat.le_of_ble_eq_true h3, fun i j hi hj hq => ?_, fun j b hb => ?_, fun j n hn => ?_, h5⟩, fun t x hx => ?_⟩
  · unfold rn
    cases hg : AL.get l j with
    | none => rfl
    | some i =>
      have := (h1 _ (AL.mem_of_get hg)).1
      have := Nat.le_of_ble_eq_true this
      simp at this; omega
  · obtain ⟨i, _, hi, hm⟩ := hval j hj
    rw [hi]
    exact Nat.le_of_ble_eq_true (h1 _ hm).2
  · obtain ⟨a, _, ha, hma⟩ := hval i hi
    obtain ⟨b, _, hb, hmb⟩ := hval j hj
    rw [ha, hb] at hq
    subst hq
    exact nodupN_inj h2 hma hmb
  · have := h6 _ (AL.mem_of_get hb)
    simp only [Bool.or_eq_true] at this
    obtain ⟨⟨q1, q2⟩, q3⟩ := this
    refine ⟨Nat.le_of_ble_eq_true q1, q2.imp (fun z => Nat.le_of_ble_eq_true z) id, ?_⟩
    split at q3
    · rename_i b' hb'; rw [hb', sameBlk_eq q3]
    · cases q3
  · have := h7 _ (AL.mem_of_get hn)
    simp only [Bool.or_eq_true] at this
    obtain ⟨⟨q1, q2⟩, q3⟩ := this
    refine ⟨Nat.le_of_ble_eq_true q1, q2.imp (fun z => Nat.le_of_ble_eq_true z) id, ?_⟩
    split at q3
    · rename_i b' hb'; rw [hb', Nat.eq_of_beq_eq_true q3]
    · cases q3
  · have := h4 _ (AL.mem_of_get hx)
    refine ⟨this.1, ?_⟩
    have q3 := this.2
    split at q3
    · rename_i y hy
      simp only at hy
      rw [hy, AV.same_eq _ _ q3]
    · cases q3

def Cx.pull (cx : Cx) (l : AL Nat) : Cx := { bm := fun j => cx.bm (rn l j), fp := fun j => cx.fp (rn l j), tsz := fun j => cx.tsz (rn l j), tot := fun j => cx.tot (rn l j), fr := cx.fr }

section
variable {R : ObjR} {cx cx0 : Cx} {S S' S0 : St} {w w0 : World} {n0 : Nat} {l : AL Nat}

theorem RenF.cur (f : RenF n0 l S S') (hS : SRel R cx S w) {j g : Nat} (h : Ev.cur S' j = some g) : Ev.cur S (rn l j) = some g := by
  unfold Ev.cur at h ⊢
  cases hb : S'.H.get j with
  | some b =>
    rw [hb] at h
    rw [(f.hH j b hb).2.2]
    cases b <;> exact h
  | none =>
    rw [hb] at h
    simp only at h
    have hT := (f.hT j g h).2.2
    cases hq : S.H.get (rn l j) with
    | some b => have := hS.dis _ b hq; rw [this] at hT; cases hT
    | none => exact hT

theorem RenF.live (f : RenF n0 l S S') {j : Nat} (h : Ev.cur S' j ≠ none) : j < S'.nx ∧ (j < n0 ∨ AL.has l j = true) := by
  unfold Ev.cur at h
  cases hb : S'.H.get j with
  | some b => exact ⟨(f.hH j b hb).1, (f.hH j b hb).2.1⟩
  | none =>
    rw [hb] at h
    simp only at h
    cases hT : S'.T.get j with
    | none => exact absurd hT h
    | some n => exact ⟨(f.hT j n hT).1, (f.hT j n hT).2.1⟩

theorem RenF.isIt (f : RenF n0 l S S') {j g : Nat} (h : Ev.isIt S' j g) : Ev.isIt S (rn l j) g := by
  unfold Ev.isIt at h ⊢
  rw [(f.hH j _ h).2.2]; rfl

theorem RenF.uniq (f : RenF n0 l S S') {i j : Nat} (hi : Ev.cur S' i ≠ none) (hj : Ev.cur S' j ≠ none) (h : rn l i = rn l j) : i = j := by
  rcases (f.live hi).2 with a | a <;> rcases (f.live hj).2 with b | b
  · rw [f.lo i a, f.lo j b] at h; exact h
  · rw [f.lo i a] at h; have := f.hi j b; omega
  · rw [f.lo j b] at h; have := f.hi i a; omega
  · exact f.inj i j a b h

theorem RenF.arel (f : RenF n0 l S S') (hS : SRel R cx S w) {y : AV} {v : Value} (h : ARel cx S w y v) : ∀ x : AV, x.ren l = y → x.under S'.nx = true → ARel (cx.pull l) S' w x v := by
  have nm : ∀ {j g : Nat}, Names S (rn l j) g → j < S'.nx → Names S' j g := fun hn hlt => ⟨hlt, fun g' hg => hn.2 g' (f.cur hS hg)⟩
  have lst : ∀ {ys : List AV} {vs : List Value} {xs : List AV}, (∀ (i : Nat) (y : AV) (v : Value), ys[i]? = some y → vs[i]? = some v → ∀ x : AV, x.ren l = y → x.under S'.nx = true → ARel (cx.pull l) S' w x v) → rens l xs = ys → belows S'.nx xs = true →
      ∀ (i : Nat) (x : AV) (v : Value), xs[i]? = some x → vs[i]? = some v → ARel (cx.pull l) S' w x v := fun ih hq hb i x v hx hv => by
    refine ih i (x.ren l) v ?_ hv x rfl (belows_mem hb x (List.mem_of_getElem? hx))
    rw [← hq, rens_map, List.getElem?_map, hx]; rfl
  induction h with
  | d y v h =>
    intro x hx hu
    cases x <;> first | (cases hx; done) | skip
    case d z => simp only [AV.ren, AV.d.injEq] at hx; subst hx; exact .d _ v h
    case it k g id s sn st => cases id <;> cases hx
  | tsl ys tok b off cap hn h hp =>
    intro x hx hu
    cases x <;> first | (cases hx; done) | skip
    case tsl zs t =>
      simp only [AV.ren, AV.tsl.injEq] at hx
      obtain ⟨rfl, rfl⟩ := hx
      simp only [AV.under] at hu
      exact .tsl _ t b off cap (nm hn (Nat.le_of_ble_eq_true hu)) h (fun hc => hp (f.cur hS hc))
    case it k g id s sn st => cases id <;> cases hx
  | ptr id g off b hn hp =>
    intro x hx hu
    cases x <;> first | (cases hx; done) | skip
    case ptr t g' o' =>
      simp only [AV.ren, AV.ptr.injEq] at hx
      obtain ⟨rfl, rfl, rfl⟩ := hx
      simp only [AV.under] at hu
      exact .ptr t _ _ b (nm hn (Nat.le_of_ble_eq_true hu)) (fun hc => hp (f.cur hS hc))
    case it k g id s sn st => cases id <;> cases hx
  | msl id g off len lim sz b cap hn hl hcap h63 hp =>
    intro x hx hu
    cases x <;> first | (cases hx; done) | skip
    case msl t g' o' a1 a2 a3 =>
      simp only [AV.ren, AV.msl.injEq] at hx
      obtain ⟨rfl, rfl, rfl, rfl, rfl, rfl⟩ := hx
      simp only [AV.under] at hu
      exact .msl t _ _ _ _ _ b cap (nm hn (Nat.le_of_ble_eq_true hu)) hl hcap h63 (fun hc => hp (f.cur hS hc))
    case it k g id s sn st => cases id <;> cases hx
  | eptr y off b o vs h hc =>
    intro x hx hu
    cases x <;> first | (cases hx; done) | skip
    case eptr z o' => simp only [AV.ren, AV.eptr.injEq] at hx; obtain ⟨rfl, rfl⟩ := hx; exact .eptr _ _ b o vs h hc
    case it k g id s sn st => cases id <;> cases hx
  | map id b hn hp =>
    intro x hx hu
    cases x <;> first | (cases hx; done) | skip
    case map t =>
      simp only [AV.ren, AV.map.injEq] at hx
      subst hx
      simp only [AV.under] at hu
      exact .map t b (nm hn (Nat.le_of_ble_eq_true hu)) (fun hc => hp (f.cur hS hc))
    case it k g id s sn st => cases id <;> cases hx
  | asl id g off len sz b hn h63 hp =>
    intro x hx hu
    cases x <;> first | (cases hx; done) | skip
    case asl t g' o' a1 a2 =>
      simp only [AV.ren, AV.asl.injEq] at hx
      obtain ⟨rfl, rfl, rfl, rfl, rfl⟩ := hx
      simp only [AV.under] at hu
      exact .asl t _ _ _ _ b (nm hn (Nat.le_of_ble_eq_true hu)) h63 (fun hc => hp (f.cur hS hc))
    case it k g id s sn st => cases id <;> cases hx
  | fn g cs vs hl h ih =>
    intro x hx hu
    cases x <;> first | (cases hx; done) | skip
    case fn g' xs =>
      simp only [AV.ren, AV.fn.injEq] at hx
      obtain ⟨rfl, hq⟩ := hx
      simp only [AV.under] at hu
      exact .fn _ xs vs (by rw [hl, ← hq, rens_map]; simp) (lst ih hq hu)
    case it k g id s sn st => cases id <;> cases hx
  | agg ys vs hl ho h ih =>
    intro x hx hu
    cases x <;> first | (cases hx; done) | skip
    case agg xs =>
      simp only [AV.ren, AV.agg.injEq] at hx
      simp only [AV.under] at hu
      exact .agg xs vs (by rw [hl, ← hx, rens_map]; simp) ho (lst ih hx hu)
    case it k g id s sn st => cases id <;> cases hx
  | tup ys vs hl h ih =>
    intro x hx hu
    cases x <;> first | (cases hx; done) | skip
    case tup xs =>
      simp only [AV.ren, AV.tup.injEq] at hx
      simp only [AV.under] at hu
      exact .tup xs vs (by rw [hl, ← hx, rens_map]; simp) (lst ih hx hu)
    case it k g id s sn st => cases id <;> cases hx
  | any v =>
    intro x hx hu
    cases x <;> first | (cases hx; done) | skip
    case any => exact .any v
    case it k g id s sn st => cases id <;> cases hx
  | it0 k g since st b seen hn hp =>
    intro x hx hu
    cases x <;> first | (cases hx; done) | skip
    case it k' g' id' s sn st' =>
      cases id' with
      | some i => cases hx
      | none =>
        simp only [AV.ren, AV.it.injEq, true_and] at hx
        obtain ⟨rfl, rfl, rfl, rfl, rfl⟩ := hx
        simp only [AV.under] at hu
        refine .it0 k' _ _ _ b _ (nm hn (Nat.le_of_ble_eq_true hu)) (fun hk => ?_)
        obtain ⟨p1, p2, p3, p4⟩ := hp (f.isIt hk)
        exact ⟨p1, p2, fun i hi hf => f.uniq hi (by rw [isIt_cur hk]; simp) (p3 _ (by
          cases hc : Ev.cur S' i with
          | none => exact absurd hc hi
          | some g => rw [f.cur hS hc]; simp) hf), p4⟩
  | it k g id since st b m seen hn hni hm hp =>
    intro x hx hu
    cases x <;> first | (cases hx; done) | skip
    case it k' g' id' s sn st' =>
      cases id' with
      | none => cases hx
      | some i' =>
        simp only [AV.ren, AV.it.injEq, Option.some.injEq] at hx
        obtain ⟨rfl, rfl, rfl, rfl, rfl, rfl⟩ := hx
        simp only [AV.under, Bool.and_eq_true] at hu
        refine .it k' _ i' _ _ b m _ (nm hn (Nat.le_of_ble_eq_true hu.1)) (nm hni (Nat.le_of_ble_eq_true hu.2)) (fun hc => hm (f.cur hS hc)) (fun hk => ?_)
        obtain ⟨p1, p2, p3, p4⟩ := hp (f.isIt hk)
        exact ⟨p1, p2, fun i hi hf => f.uniq hi (by rw [isIt_cur hk]; simp) (p3 _ (by
          cases hc : Ev.cur S' i with
          | none => exact absurd hc hi
          | some g => rw [f.cur hS hc]; simp) hf), p4⟩

theorem RenF.srel (f : RenF n0 l S S') (hS : SRel R cx S w) : SRel R (cx.pull l) S' w := by
  have hlive : ∀ {j}, Ev.live S' j → Ev.live S (rn l j) := fun {j} hj => by
    unfold Ev.live at *
    cases hc : Ev.cur S' j with
    | none => exact absurd hc hj
    | some g => rw [f.cur hS hc]; simp
  refine ⟨fun id hl => (f.live hl).1, fun id b hi => ?_, fun id g cs hi => ?_, fun id es hi => ?_, fun id k x hi => ?_, fun id en hi => ?_, fun id id' b a1 a2 f1 f2 => ?_, hS.lt, hS.stat⟩
  · cases hT : S'.T.get id with
    | none => rfl
    | some n => have := (f.hT id n hT).2.2; rw [hS.dis _ _ (f.hH id b hi).2.2] at this; cases this
  · obtain ⟨c1, c2, arr, el, c3, c4, c5⟩ := hS.cells (rn l id) g (rens l cs) (f.hH id _ hi).2.2
    have hln : (rens l cs).length = cs.length := by rw [rens_map, List.length_map]
    rw [hln] at c4
    have hb := (belowH_get f.below id _ hi).1 g cs rfl
    refine ⟨c1, c2, arr, el, c3, c4, fun i x hx => ?_⟩
    obtain ⟨v, v1, v2, v3⟩ := c5 i (x.ren l) (by rw [rens_map, List.getElem?_map, hx]; rfl)
    exact ⟨v, v1, f.arel hS v2 x rfl (belows_mem hb x (List.mem_of_getElem? hx)), v3⟩
  · obtain ⟨c1, c2, ms, clk, c3, c4, c5⟩ := hS.maps (rn l id) { es with es := es.es.map fun (p : D × AV × Nat) => (p.1, p.2.1.ren l, p.2.2) } (f.hH id _ hi).2.2
    obtain ⟨c4, c4', c4''⟩ := c4
    have hb := (belowH_get f.below id _ hi).2 es rfl
    have hget : ∀ (i : Nat) (p : D × AV × Nat), es.es[i]? = some p → (es.es.map fun (p : D × AV × Nat) => (p.1, p.2.1.ren l, p.2.2))[i]? = some (p.1, p.2.1.ren l, p.2.2) := fun i p hp => by
      rw [List.getElem?_map, hp]; rfl
    refine ⟨c1, c2, ms, clk, c3, ⟨by simpa using c4, c4', fun i p m hp hm => by have := c4'' i _ m (hget i p hp) hm; exact this⟩, fun i p m hp hm => ?_⟩
    obtain ⟨v1, v2⟩ := c5 i _ m (hget i p hp) hm
    exact ⟨v1, f.arel hS v2 _ rfl (hb p (List.mem_of_getElem? hp))⟩
  · exact hS.objs _ k x (f.hH id _ hi).2.2
  · obtain ⟨c1, c2, c3⟩ := hS.toks _ _ (f.hT id _ hi).2.2
    exact ⟨c1, c2, c3⟩
  · exact f.uniq a1 a2 (hS.sep _ _ b (hlive a1) (hlive a2) f1 f2)

theorem RenF.ext (f : RenF S0.nx l S S') (hS : SRel R cx S w) (e : Ext cx0 S0 w0 cx S w) : Ext cx0 S0 w0 (cx.pull l) S' w where
  size := e.size
  os := e.os
  tape := e.tape
  output := e.output
  nx := f.nx
  prot := e.prot
  other := fun b hb hn => e.other b hb (fun id hl hf => by
    obtain ⟨q1, g, q2, q3⟩ := hn id hl hf
    have := f.isIt q3
    rw [f.lo id q1] at this
    exact ⟨q1, g, q2, this⟩)
  own := fun id b hl hf => by
    have hl' : Ev.live S (rn l id) := by
      unfold Ev.live at *
      cases hc : Ev.cur S' id with
      | none => exact absurd hc hl
      | some g => rw [f.cur hS hc]; simp
    obtain ⟨p, q⟩ := e.own _ b hl' hf
    refine ⟨fun h => ?_, fun h => ?_⟩
    · rw [f.lo id h] at p; exact p h
    · rcases (f.live hl).2 with z | z
      · omega
      · exact q (f.hi id z)
  back := fun id g hid hi => by
    have := f.isIt hi
    rw [f.lo id hid] at this
    exact e.back id g hid this
  keep := fun id g b hid h0 hi hf => by
    have := f.isIt hi
    rw [f.lo id hid] at this
    have := e.keep id g b hid h0 this hf
    show cx.fp (rn l id) b
    rw [f.lo id hid]; exact this
  curs := fun id g hid hg => by
    have := f.cur hS hg
    rw [f.lo id hid] at this
    obtain ⟨g0, h0, h1, h2⟩ := e.curs id g hid this
    refine ⟨g0, h0, h1, fun hq => ?_⟩
    show cx.bm (rn l id) = _ ∧ cx.tsz (rn l id) = _ ∧ cx.tot (rn l id) = _
    rw [f.lo id hid]; exact h2 hq

/-- Other numbers for what is new. -/
theorem canon_sound {nt : Nat} {e : Env} {a : Act} (S0 : St) (hS : SRel R cx S w) (x : Ext cx0 S0 w0 cx S w) (he : ERel cx S w nt e a) :
    ∃ cx', SRel R cx' (canon S0 nt e S).2 w ∧ Ext cx0 S0 w0 cx' (canon S0 nt e S).2 w ∧ ERel cx' (canon S0 nt e S).2 w nt (canon S0 nt e S).1 a := by
  unfold canon
  simp only
  cases hr : renOk S0.nx (canonW S0 nt e S).1 e S (canonW S0 nt e S).2.1 (canonW S0 nt e S).2.2 with
  | false => exact ⟨cx, hS, x, he⟩
  | true =>
    simp only [cond_true]
    obtain ⟨f, g⟩ := renOk_spec hr
    refine ⟨cx.pull _, f.srel hS, f.ext hS x, he.size, fun t y hy => ?_⟩
    obtain ⟨g1, g2⟩ := g t y hy
    obtain ⟨v, v1, v2⟩ := he.rel t _ g2
    exact ⟨v, v1, f.arel hS v2 y rfl g1⟩
end

end
end Go.Ev


namespace Go.Ev
noncomputable section
set_option linter.unusedVariables false
set_option linter.unusedSimpArgs false

theorem sameH_eq : ∀ {x y : AL Blk}, sameH x y = true → x = y
  | [], [], _ => rfl
  | [], _ :: _, h => by cases h
  | _ :: _, [], h => by cases h
  | (k, b) :: l, (k', b') :: l', h => by
    simp only [sameH, Bool.and_eq_true] at h
    rw [Nat.eq_of_beq_eq_true h.1.1, sameBlk_eq h.1.2, sameH_eq h.2]
theorem sameT_eq : ∀ {x y : AL Nat}, sameT x y = true → x = y
  | [], [], _ => rfl
  | [], _ :: _, h => by cases h
  | _ :: _, [], h => by cases h
  | (k, b) :: l, (k', b') :: l', h => by
    simp only [sameT, Bool.and_eq_true] at h
    rw [Nat.eq_of_beq_eq_true h.1.1, Nat.eq_of_beq_eq_true h.1.2, sameT_eq h.2]
theorem sameE_eq : ∀ {x y : Env}, sameE x y = true → x = y
  | [], [], _ => rfl
  | [], _ :: _, h => by cases h
  | _ :: _, [], h => by cases h
  | (k, b) :: l, (k', b') :: l', h => by
    simp only [sameE, Bool.and_eq_true] at h
    rw [Nat.eq_of_beq_eq_true h.1.1, AV.same_eq _ _ h.1.2, sameE_eq h.2]
theorem sameS_eq {x y : St} (h : sameS x y = true) : x = y := by
  obtain ⟨H, T, nx⟩ := x
  obtain ⟨H', T', nx'⟩ := y
  simp only [sameS, Bool.and_eq_true] at h
  rw [Nat.eq_of_beq_eq_true h.1.1, sameT_eq h.1.2, sameH_eq h.2]
theorem sameItem_eq {x y : Item} (h : sameItem x y = true) : x = y := by
  obtain ⟨l, e, S⟩ := x
  obtain ⟨l', e', S'⟩ := y
  simp only [sameItem, Bool.and_eq_true] at h
  rw [eq_of_beq h.1.1, sameE_eq h.1.2, sameS_eq h.2]
theorem dedupI_mem : ∀ {l : List Item}, ∀ x ∈ l, x ∈ dedupI l
  | [], x, hx => by cases hx
  | y :: l, x, hx => by
    simp only [dedupI]
    rcases List.mem_cons.1 hx with rfl | hx
    · cases hh : l.any (sameItem x) with
      | false => simp
      | true =>
        simp only [cond_true]
        rw [List.any_eq_true] at hh
        obtain ⟨z, hz, hs⟩ := hh
        have := sameItem_eq hs
        subst this
        exact dedupI_mem x hz
    · cases hh : l.any (sameItem y) with
      | false => exact List.mem_cons_of_mem _ (dedupI_mem x hx)
      | true => exact dedupI_mem x hx

/-- Every order. -/
theorem drawN_sound {R : ObjR} {C : Cfg} (hR : ObjOkC R C) {h : HandL} (hh : HandOkL R C.P h) {nt : Nat} {ops : Array Oper} {S0 : St} {cx0 : Cx} {w0 : World} {Q : Exit → Act → World → Prop} {df : List Deferred} :
    ∀ (n : Nat) (l rs : List Item), drawN C h nt ops S0 n l = some rs → ∀ x ∈ l, ∀ (cx : Cx) (w : World) (a : Act), SRel R cx x.S w → Ext cx0 S0 w0 cx x.S w → ERel cx x.S w nt x.e a → a.defers = df →
    (∀ y ∈ rs, ∀ cx' a' w', SRel R cx' y.S w' → Ext cx0 S0 w0 cx' y.S w' → ERel cx' y.S w' nt y.e a' → a'.defers = df → Q .normal a' w') → wpAny C.P .any ops Q n x.listed a w := by
  intro n
  induction n with
  | zero =>
    intro l rs hd x hx cx w a hS hE he hdf hk
    simp only [drawN] at hd
    cases ha : (l.all fun x => (Region.ready .any ops x.listed).isEmpty) with
    | false => rw [ha] at hd; cases hd
    | true =>
      rw [ha] at hd
      simp only [cond_true, Option.some.injEq] at hd
      subst hd
      have := List.all_eq_true.1 ha x hx
      exact ⟨List.isEmpty_iff.1 this, hk x hx cx a w hS hE he hdf⟩
  | succ n ih =>
    intro l rs hd x hx cx w a hS hE he hdf hk
    simp only [drawN] at hd
    split at hd
    · rename_i l' hl'
      obtain ⟨ys, hy1, hy2⟩ := bindL_mem hl' x hx
      unfold expand at hy1
      split at hy1
      · cases hy1
      · rename_i rd hrd
        refine ⟨fun hnil => absurd hnil hrd, fun i hi => ?_⟩
        obtain ⟨zs, hz1, hz2⟩ := bindL_mem hy1 i hi
        split at hz1
        · rename_i o ho
          split at hz1
          · rename_i rs' hst
            refine stepL_sound hR hh hst hS he (fun r hr => ?_) ho
            obtain ⟨it, hi1, hi2⟩ := mapO_mem hz1 r hr
            cases r with
            | stop v S' => cases hi1
            | go e' S' =>
              simp only [Option.some.injEq] at hi1
              subst hi1
              intro cx1 a1 w1 s1 x1 er1 d1
              obtain ⟨cx2, t1, t2, t3⟩ := canon_sound (nt := nt) S0 s1 (hE.trans x1) er1
              exact ih (dedupI l') rs hd _ (dedupI_mem _ (hy2 _ (hz2 _ hi2))) cx2 w1 a1 t1 t2 t3 (d1.trans hdf) hk
          · cases hz1
        · cases hz1
    · cases hd

end
end Go.Ev


namespace Go.Ev
noncomputable section
set_option linter.unusedVariables false
set_option linter.unusedSimpArgs false

theorem AL.get_tidy {α : Type} : ∀ (l : AL α) (seen : List Nat) (n : Nat), AL.get (AL.tidy l seen) n = if seen.contains n then none else AL.get l n
  | [], seen, n => by simp [AL.tidy, AL.get]
  | (k, v) :: l, seen, n => by
    simp only [AL.tidy]
    cases hk : seen.contains k with
    | true =>
      simp only [cond_true]
      rw [AL.get_tidy l seen n, AL.get_cons]
      by_cases hn : k = n
      · subst hn; rw [hk]; simp
      · simp [hn]
    | false =>
      simp only [cond_false]
      rw [AL.get_cons, AL.get_cons, AL.get_tidy l (k :: seen) n]
      by_cases hn : k = n
      · subst hn; rw [hk]; simp
      · simp [hn, Ne.symm hn, List.contains_cons]

theorem AL.get_over {α : Type} : ∀ (l m : AL α) (n : Nat) (x : α), AL.get (AL.over l m) n = some x → AL.get m n = some x ∧ AL.get l n ≠ none
  | [], m, n, x, h => by simp [AL.over, AL.get] at h
  | (k, v) :: l, m, n, x, h => by
    simp only [AL.over] at h
    rw [AL.get_cons]
    cases hm : AL.get m k with
    | none =>
      rw [hm] at h
      have := AL.get_over l m n x h
      refine ⟨this.1, ?_⟩
      by_cases hn : k = n
      · simp [hn]
      · simp [hn]; exact this.2
    | some y =>
      rw [hm] at h
      simp only [AL.get_cons] at h
      by_cases hn : k = n
      · subst hn; simp at h; subst h; exact ⟨hm, by simp⟩
      · rw [if_neg hn] at h
        have := AL.get_over l m n x h
        exact ⟨this.1, by simp [hn]; exact this.2⟩

theorem rep_false (n j : Nat) : (Array.replicate n false).getD j false = false := by
  unfold Array.getD; split <;> simp

theorem belowE_get {n : Nat} : ∀ {e : Env}, belowE n e = true → ∀ t x, AL.get e t = some x → x.under n = true
  | [], _, t, x, h => by simp [AL.get] at h
  | (k, v) :: l, hb, t, x, h => by
    simp only [belowE, Bool.and_eq_true] at hb
    rw [AL.get_cons] at h
    by_cases hk : k = t
    · rw [if_pos hk] at h; cases h; exact hb.1
    · rw [if_neg hk] at h; exact belowE_get hb.2 t x h

/-- What a round has made is forgotten. -/
def dropSt (S0 S : St) : St := { H := AL.over S0.H S.H, T := AL.over S0.T S.T, nx := S0.nx }

theorem drop_cur {R : ObjR} {cx : Cx} {S0 S : St} {w : World} (h : SRel R cx S w) {id g : Nat} (hc : cur (dropSt S0 S) id = some g) : cur S id = some g := by
  unfold cur at hc ⊢
  unfold dropSt at hc
  simp only at hc
  cases hH : AL.get (AL.over S0.H S.H) id with
  | some b =>
    rw [hH] at hc
    rw [(AL.get_over _ _ _ _ hH).1]
    cases b <;> exact hc
  | none =>
    rw [hH] at hc
    simp only at hc
    have hT := (AL.get_over _ _ _ _ hc).1
    cases hS : S.H.get id with
    | some b => have := h.dis id b hS; rw [this] at hT; cases hT
    | none => exact hT

theorem drop_live {S0 S : St} {id : Nat} (hl : live (dropSt S0 S) id) : live S0 id := by
  unfold live cur at hl ⊢
  unfold dropSt at hl
  simp only at hl
  cases hH : AL.get (AL.over S0.H S.H) id with
  | some b =>
    have := (AL.get_over _ _ _ _ hH).2
    cases h0 : S0.H.get id with
    | none => exact absurd h0 this
    | some b0 => cases b0 <;> simp
  | none =>
    rw [hH] at hl
    simp only at hl
    cases hT : AL.get (AL.over S0.T S.T) id with
    | none => exact absurd hT hl
    | some en =>
      have := (AL.get_over _ _ _ _ hT).2
      cases h0 : S0.H.get id with
      | none => exact this
      | some b0 => cases b0 <;> simp

theorem drop_isIt {S0 S : St} {k g : Nat} (h : isIt (dropSt S0 S) k g) : isIt S k g := (AL.get_over _ _ _ _ h).1
theorem drop_liveS {R : ObjR} {cx : Cx} {S0 S : St} {w : World} (h : SRel R cx S w) {i : Nat} (hi : cur (dropSt S0 S) i ≠ none) : cur S i ≠ none := by
  cases hc : cur (dropSt S0 S) i with
  | none => exact absurd hc hi
  | some g => rw [drop_cur h hc]; simp

theorem ARel.drop {R : ObjR} {cx : Cx} {S0 S : St} {w : World} (h : SRel R cx S w) {x : AV} {v : Value} (hx : ARel cx S w x v) (hu : x.under S0.nx = true) : ARel cx (dropSt S0 S) w x v := by
  have nm : ∀ {id g : Nat}, Names S id g → id < S0.nx → Names (dropSt S0 S) id g := fun hn hlt => ⟨hlt, fun g' hg => hn.2 g' (drop_cur h hg)⟩
  induction hx with
  | d x v hd => exact .d x v hd
  | tsl xs tok b off cap hn hd hp =>
    simp only [AV.under] at hu
    exact .tsl xs tok b off cap (nm hn (Nat.le_of_ble_eq_true hu)) hd (fun hc => hp (drop_cur h hc))
  | ptr id g off b hn hp =>
    simp only [AV.under] at hu
    exact .ptr id g off b (nm hn (Nat.le_of_ble_eq_true hu)) (fun hc => hp (drop_cur h hc))
  | msl id g off len lim sz b cap hn hl hcap h63 hp =>
    simp only [AV.under] at hu
    exact .msl id g off len lim sz b cap (nm hn (Nat.le_of_ble_eq_true hu)) hl hcap h63 (fun hc => hp (drop_cur h hc))
  | any v => exact .any v
  | eptr x off b o vs hd hc => exact .eptr x off b o vs hd hc
  | map id b hn hp =>
    simp only [AV.under] at hu
    exact .map id b (nm hn (Nat.le_of_ble_eq_true hu)) (fun hc => hp (drop_cur h hc))
  | asl id g off len sz b hn h63 hp =>
    simp only [AV.under] at hu
    exact .asl id g off len sz b (nm hn (Nat.le_of_ble_eq_true hu)) h63 (fun hc => hp (drop_cur h hc))
  | fn f cs vs hl hr ih => exact .fn f cs vs hl (fun i x v hx hv => ih i x v hx hv (by simp only [AV.under] at hu; exact belows_mem hu x (List.mem_of_getElem? hx)))
  | agg xs vs hl ho hr ih => exact .agg xs vs hl ho (fun i x v hx hv => ih i x v hx hv (by simp only [AV.under] at hu; exact belows_mem hu x (List.mem_of_getElem? hx)))
  | tup xs vs hl hr ih => exact .tup xs vs hl (fun i x v hx hv => ih i x v hx hv (by simp only [AV.under] at hu; exact belows_mem hu x (List.mem_of_getElem? hx)))
  | it0 k g since st b seen hn hp =>
    simp only [AV.under] at hu
    refine .it0 k g since st b seen (nm hn (Nat.le_of_ble_eq_true hu)) (fun hk => ?_)
    obtain ⟨p1, p2, p3, p4⟩ := hp (drop_isIt hk)
    exact ⟨p1, p2, fun i hi hf => p3 i (drop_liveS h hi) hf, p4⟩
  | it k g id since st b m seen hn hni hm hp =>
    simp only [AV.under, Bool.and_eq_true] at hu
    refine .it k g id since st b m seen (nm hn (Nat.le_of_ble_eq_true hu.1)) (nm hni (Nat.le_of_ble_eq_true hu.2)) (fun hc => hm (drop_cur h hc)) (fun hk => ?_)
    obtain ⟨p1, p2, p3, p4⟩ := hp (drop_isIt hk)
    exact ⟨p1, p2, fun i hi hf => p3 i (drop_liveS h hi) hf, p4⟩

theorem drop_sound {R : ObjR} {cx0 cx : Cx} {S0 S : St} {w0 w : World} (wf0 : ∀ id, live S0 id → id < S0.nx) (h : SRel R cx S w) (e : Ext cx0 S0 w0 cx S w) (hb : belowH S0.nx (AL.over S0.H S.H) = true) :
    SRel R cx (dropSt S0 S) w ∧ Ext cx0 S0 w0 cx (dropSt S0 S) w := by
  have hlS : ∀ id, live (dropSt S0 S) id → live S id := fun id hl => by
    unfold live at *
    cases hc : cur (dropSt S0 S) id with
    | none => exact absurd hc hl
    | some g => rw [drop_cur h hc]; simp
  refine ⟨⟨fun id hl => wf0 id (drop_live hl), fun id b hi => ?_, fun id g cs hi => ?_, fun id es hi => ?_, fun id k x hi => ?_, fun id en hi => ?_, fun id id' b a1 a2 => h.sep id id' b (hlS id a1) (hlS id' a2), h.lt, h.stat⟩, ?_⟩
  · have hS := (AL.get_over _ _ _ _ hi).1
    cases hT : (dropSt S0 S).T.get id with
    | none => rfl
    | some en => have := (AL.get_over _ _ _ _ hT).1; rw [h.dis id b hS] at this; cases this
  · obtain ⟨c1, c2, arr, el, c3, c4, c5⟩ := h.cells id g cs (AL.get_over _ _ _ _ hi).1
    have hbl := (belowH_get hb id _ hi).1 g cs rfl
    refine ⟨c1, c2, arr, el, c3, c4, fun i x hx => ?_⟩
    obtain ⟨v, v1, v2, v3⟩ := c5 i x hx
    exact ⟨v, v1, v2.drop h (belows_mem hbl x (List.mem_of_getElem? hx)), v3⟩
  · obtain ⟨c1, c2, ms, clk, c3, c4, c5⟩ := h.maps id es (AL.get_over _ _ _ _ hi).1
    have hbl := (belowH_get hb id _ hi).2 es rfl
    refine ⟨c1, c2, ms, clk, c3, c4, fun i p m hp hm => ?_⟩
    obtain ⟨v1, v2⟩ := c5 i p m hp hm
    exact ⟨v1, v2.drop h (hbl p (List.mem_of_getElem? hp))⟩
  · exact h.objs id k x (AL.get_over _ _ _ _ hi).1
  · exact h.toks id en (AL.get_over _ _ _ _ hi).1
  · refine ⟨e.size, e.os, e.tape, e.output, Nat.le_refl _, e.prot, fun b hb hn => e.other b hb (fun id hl hf => by
      obtain ⟨q1, g, q2, q3⟩ := hn id hl hf
      exact ⟨q1, g, q2, drop_isIt q3⟩), fun id b hl hf => ?_, fun id g hid hi => e.back id g hid (drop_isIt hi), fun id g b hid h0 hi hf => e.keep id g b hid h0 (drop_isIt hi) hf, fun id g hid hg => e.curs id g hid (drop_cur h hg)⟩
    exact e.own id b (hlS id hl) hf

/-- How a piece of code ends. -/
def Fin (R : ObjR) (cx : Cx) (S : St) (w : World) (nt : Nat) (a : Act) (Q : Exit → Act → World → Prop) (r : Xit × Env × St) : Prop :=
  match r.1 with
  | .normal => ∀ cx' a' w', SRel R cx' r.2.2 w' → Ext cx S w cx' r.2.2 w' → ERel cx' r.2.2 w' nt r.2.1 a' → a'.defers = a.defers → Q .normal a' w'
  | .exit id => ∀ cx' a' w', SRel R cx' r.2.2 w' → Ext cx S w cx' r.2.2 w' → ERel cx' r.2.2 w' nt r.2.1 a' → a'.defers = a.defers → Q (.exit id) a' w'
  | .ret => ∀ cx' a' w', SRel R cx' r.2.2 w' → Ext cx S w cx' r.2.2 w' → ERel cx' r.2.2 w' nt r.2.1 a' → a'.defers = a.defers → Q .ret a' w'
  | .panic v => ∀ cx' a' w' u, SRel R cx' r.2.2 w' → Ext cx S w cx' r.2.2 w' → ARel cx' r.2.2 w' v u → a'.defers = a.defers → Q (.panic [{ v := u, recovered := false }]) a' w'

theorem Fin.trans {R : ObjR} {cx cx1 : Cx} {S S1 : St} {w w1 : World} {nt : Nat} {a a1 : Act} {Q : Exit → Act → World → Prop} {r : Xit × Env × St} (x : Ext cx S w cx1 S1 w1) (d : a1.defers = a.defers) (h : Fin R cx S w nt a Q r) : Fin R cx1 S1 w1 nt a1 Q r := by
  unfold Fin at *
  split at h
  · exact fun cx' a' w' q1 q2 q3 q4 => h cx' a' w' q1 (x.trans q2) q3 (q4.trans d)
  · exact fun cx' a' w' q1 q2 q3 q4 => h cx' a' w' q1 (x.trans q2) q3 (q4.trans d)
  · exact fun cx' a' w' q1 q2 q3 q4 => h cx' a' w' q1 (x.trans q2) q3 (q4.trans d)
  · exact fun cx' a' w' u q1 q2 q3 q4 => h cx' a' w' u q1 (x.trans q2) q3 (q4.trans d)

def codeOk : Code → Bool
  | .region _ ops draw => !draw || regOk ops
  | .seq a b => codeOk a && codeOk b
  | .cond _ a b => codeOk a && codeOk b
  | .block _ a => codeOk a
  | .loop a => codeOk a
  | _ => true

/-- What is asked of the evaluation of a piece of code. -/
def Sound (R : ObjR) (P : Program) (nt : Nat) (c : Code) (f : Env → St → Option (List Res)) : Prop :=
  ∀ (cx : Cx) (S : St) (w : World) (e : Env) (a : Act) (rs : List Res) (Q : Exit → Act → World → Prop), f e S = some rs → SRel R cx S w → ERel cx S w nt e a → (∀ r ∈ rs, Fin R cx S w nt a Q r) → c.wp P Q a w

theorem ERel.over {cx : Cx} {S : St} {w : World} {nt : Nat} {e0 e : Env} {a : Act} (h : ERel cx S w nt e a) : ERel cx S w nt (AL.over e0 e) a :=
  ⟨h.size, fun t x hx => h.rel t x (AL.get_over _ _ _ _ hx).1⟩

theorem loop_sound {R : ObjR} {P : Program} {nt : Nat} {c : Code} {f : Env → St → Option (List Res)} (hf : Sound R P nt c f) : ∀ (n : Nat) (cx : Cx) (S : St) (w : World) (e : Env) (a : Act) (rs : List Res) (Q : Exit → Act → World → Prop),
    loopN f n e S = some rs → SRel R cx S w → ERel cx S w nt e a → (∀ r ∈ rs, Fin R cx S w nt a Q r) → ∀ (b : Frame) (k : List Go.Item) (cs : List Frame),
      ∃ x a' w', Q x a' w' ∧ Arrives P (lone (b.at a (.code c :: .inLoop c :: k)) cs w) b k cs x a' w' := by
  intro n
  induction n with
  | zero => intro cx S w e a rs Q h; simp [loopN] at h
  | succ n ih =>
    intro cx S w e a rs Q h hS he hk b k cs
    simp only [loopN] at h
    have wf := hS.wf
    -- the round's ends
    let Q' : Exit → Act → World → Prop := fun x a' w' => match x with
      | .normal => ∃ cx1 e1 S1 rs1, SRel R cx1 S1 w' ∧ ERel cx1 S1 w' nt e1 a' ∧ Ext cx S w cx1 S1 w' ∧ a'.defers = a.defers ∧ loopN f n e1 S1 = some rs1 ∧ ∀ r ∈ rs1, r ∈ rs
      | x => Q x a' w'
    have hround : c.wp P Q' a w := by
      split at h
      · rename_i rs0 hb
        refine hf cx S w e a rs0 Q' hb hS he (fun r hr => ?_)
        obtain ⟨rs1, h1, h2⟩ := bindL_mem h r hr
        obtain ⟨x, e', S'⟩ := r
        cases x with
        | normal =>
          intro cx' a' w' q1 q2 q3 q4
          simp only [roundEnd] at h1 q1 q2 q3
          by_cases hc : (belowE S.nx (AL.over e e') && belowH S.nx (AL.over S.H S'.H)) = true
          · rw [if_pos hc] at h1
            simp only [Bool.and_eq_true] at hc
            obtain ⟨d1, d2⟩ := drop_sound wf q1 q2 hc.2
            exact ⟨cx', _, _, rs1, d1, ⟨q3.size, fun t x hx => by
              obtain ⟨v, v1, v2⟩ := q3.rel t x (AL.get_over _ _ _ _ hx).1
              exact ⟨v, v1, v2.drop q1 (belowE_get hc.1 t x hx)⟩⟩, d2, q4, h1, h2⟩
          · rw [if_neg hc] at h1
            exact ⟨cx', _, S', rs1, q1, q3.over, q2, q4, h1, h2⟩
        | exit id =>
          simp only [Option.some.injEq] at h1
          subst h1
          have hk' := hk _ (h2 _ (List.mem_singleton.2 rfl))
          unfold Fin at hk' ⊢
          exact fun cx' a' w' q1 q2 q3 q4 => hk' cx' a' w' q1 q2 q3.over q4
        | ret =>
          simp only [Option.some.injEq] at h1
          subst h1
          have hk' := hk _ (h2 _ (List.mem_singleton.2 rfl))
          unfold Fin at hk' ⊢
          exact fun cx' a' w' q1 q2 q3 q4 => hk' cx' a' w' q1 q2 q3.over q4
        | panic v =>
          simp only [Option.some.injEq] at h1
          subst h1
          have hk' := hk _ (h2 _ (List.mem_singleton.2 rfl))
          unfold Fin at hk' ⊢
          exact fun cx' a' w' u q1 q2 q3 q4 => hk' cx' a' w' u q1 q2 q3 q4
      · cases h
    obtain ⟨x, a₁, w₁, hq, harr⟩ := hround b (.inLoop c :: k) cs
    cases x with
    | normal =>
      obtain ⟨cx1, e1, S1, rs1, s1, er1, x1, d1, hl, hsub⟩ := hq
      obtain ⟨x2, a₂, w₂, hq₂, harr₂⟩ := ih cx1 S1 w₁ e1 a₁ rs1 Q hl s1 er1 (fun r hr => (hk r (hsub r hr)).trans x1 d1) b k cs
      exact ⟨x2, a₂, w₂, hq₂, .of_steps (Steps.trans harr (.one step_inLoop)) harr₂⟩
    | exit id => exact ⟨_, a₁, w₁, hq, .pass (x := .inLoop c) rfl (fun _ _ => .inl (by simp)) harr⟩
    | goto l => exact ⟨_, a₁, w₁, hq, .pass (x := .inLoop c) rfl (fun _ _ => .inl (by simp)) harr⟩
    | ret => exact ⟨_, a₁, w₁, hq, .pass (x := .inLoop c) rfl (fun _ _ => .inl (by simp)) harr⟩
    | panic ch => exact ⟨_, a₁, w₁, hq, .pass (x := .inLoop c) rfl (fun _ _ => .inl (by simp)) harr⟩
    | outgrown => exact ⟨_, a₁, w₁, hq, .pass (x := .inLoop c) rfl (fun _ _ => .inl (by simp)) harr⟩

theorem evC_sound {R : ObjR} {C : Cfg} (hR : ObjOkC R C) (hm : C.P.follows .mixedOrders = true) {h : HandL} (hh : HandOkL R C.P h) (hp : PureOk (det h)) {n nt : Nat} : ∀ (c : Code), codeOk c = true → Sound R C.P nt c (evC C h n nt c)
  | .skip, _ => by
    intro cx S w e a rs Q hv hS he hk
    simp only [evC, Option.some.injEq] at hv; subst hv
    exact wp_skip (hk (.normal, e, S) (by simp) cx a w hS (Ext.refl w hS.wf) he rfl)
  | .exit id, _ => by
    intro cx S w e a rs Q hv hS he hk
    simp only [evC, Option.some.injEq] at hv; subst hv
    exact wp_exit (hk (.exit id, e, S) (by simp) cx a w hS (Ext.refl w hS.wf) he rfl)
  | .ret, _ => by
    intro cx S w e a rs Q hv hS he hk
    simp only [evC, Option.some.injEq] at hv; subst hv
    exact wp_ret (hk (.ret, e, S) (by simp) cx a w hS (Ext.refl w hS.wf) he rfl)
  | .region id ops false, hok => by
    intro cx S w e a rs Q hv hS he hk
    simp only [evC] at hv
    refine wp_region ?_
    simp only [Option.map_eq_some_iff] at hv
    obtain ⟨rs0, hev, rfl⟩ := hv
    have := opsL_sound hR hh (Q := Q) (nt := nt) (ops := ops) ops.toList 0 (by simp) hev hS he (fun r hr => by
      have hk' := hk (ofStp e r) (List.mem_map.2 ⟨r, hr, rfl⟩)
      cases r with
      | go e' S' => exact fun cx' a' w' q1 q2 q3 q4 => hk' cx' a' w' q1 q2 q3 q4
      | stop v S' => exact fun cx' a' w' u q1 q2 q3 q4 => hk' cx' a' w' u q1 q2 q3 q4)
    simpa using this
  | .region id ops true, hok => by
    intro cx S w e a rs Q hv hS he hk
    simp only [evC] at hv
    have every : drawR C h nt ops e S = some rs → (Code.region id ops true).wp C.P Q a w := fun hd => by
      unfold drawR at hd
      simp only [Option.map_eq_some_iff] at hd
      obtain ⟨ls, hd, rfl⟩ := hd
      obtain ⟨d1, d2⟩ := drew_sound hR.toObjOk hS
      refine wp_region_any hm ?_
      exact drawN_sound hR hh (S0 := S) (cx0 := cx) (w0 := w) (df := a.defers) ops.size _ ls hd _ (List.mem_singleton.2 rfl) cx w.drew a d1 d2 (he.mono d2) rfl
        (fun y hy cx' a' w' q1 q2 q3 q4 => hk (.normal, y.e, y.S) (List.mem_map.2 ⟨y, hy, rfl⟩) cx' a' w' q1 q2 q3 q4)
    split at hv
    · rename_i ks e' S' hev
      cases hpk : pairsOk ops ks with
      | false => rw [hpk] at hv; exact every hv
      | true =>
        rw [hpk] at hv
        simp only [cond_true, Option.some.injEq] at hv; subst hv
        simp only [codeOk, Bool.not_true, Bool.false_or] at hok
        obtain ⟨d1, d2⟩ := drew_sound hR.toObjOk hS
        refine wp_region_any hm ?_
        have hkj : ∀ j d, ks[j]? = some d → (kinds ks).getD j 2 = kindOf ((ks.map (·.ids)).flatten) d := fun j d hj => by
          simp only [kinds, List.getD, List.getElem?_map, hj, Option.map_some, Option.getD_some]
          rfl
        obtain ⟨hi, hlen⟩ := evOpsK_run (K := fun i => (kinds ks).getD i 2) (I := (ks.map (·.ids)).flatten) hp ops.toList 0 (by simp) hev (fun j d hj => by rw [Nat.zero_add]; exact hkj j d hj) (fun d hd id hid => List.mem_flatten.2 ⟨d.ids, List.mem_map.2 ⟨d, hd, rfl⟩, hid⟩)
        have hfl : ((List.range ops.size).filter fun i => !(Array.replicate ops.size false).getD i false) = List.range ops.size := by
          rw [List.filter_eq_self]; intro i hi; rw [rep_false]; rfl
        have hK : ∀ i k, k < i → i < ops.size → ((Region.before ops).getD i 0).testBit k = true ∨ okK ((kinds ks).getD k 2) ((kinds ks).getD i 2) = true := by
          intro i k hk hi
          unfold pairsOk at hpk
          simp only [Bool.or_eq_true] at hpk
          rcases hpk with q | q
          · right
            have hle : ∀ j, j < ops.size → (kinds ks).getD j 2 ≤ 1 := fun j hj => by
              have hjl : j < ks.length := by rw [hlen]; simpa using hj
              have hk1 := Nat.le_of_ble_eq_true (List.all_eq_true.1 q ks[j] (List.getElem_mem hjl))
              rw [hkj j _ (List.getElem?_eq_getElem hjl)]
              unfold kindOf
              cases hb : Nat.beq ks[j].k 2 with
              | false => exact hk1
              | true => have := Nat.eq_of_beq_eq_true hb; omega
            have h1 := hle k (by omega)
            have h2 := hle i hi
            generalize (kinds ks).getD k 2 = x at h1 ⊢
            generalize (kinds ks).getD i 2 = y at h2 ⊢
            match x, y, h1, h2 with
            | 0, _, _, _ => rfl
            | 1, 0, _, _ => rfl
            | 1, 1, _, _ => rfl
          · have := List.all_eq_true.1 q i (List.mem_range.2 hi)
            have := List.all_eq_true.1 this k (List.mem_range.2 hk)
            simpa only [Bool.or_eq_true] using this
        refine draw_any hR (det_ok hh) hok hK ops.size (Array.replicate ops.size false) (cx := cx) (S := S) (S' := S') (w := w.drew) (e := e) (e' := e') (by simp) (fun j hj => by rw [rep_false] at hj; cases hj) (by rw [hfl]; simp) (by rw [hfl]; simpa using hi) d1 (he.mono d2) (fun cx' a' w' e'' q1 q2 q3 q4 q5 => ?_)
        exact hk (.normal, e', S') (by simp) cx' a' w' q1 (d2.trans q2) ⟨q3.size, fun t x hx => q3.rel t x (by rw [q4 t]; exact hx)⟩ q5
    · exact every hv
  | .seq x y, hok => by
    simp only [codeOk, Bool.and_eq_true] at hok
    intro cx S w e a rs Q hv hS he hk
    simp only [evC] at hv
    refine wp_seq ?_
    split at hv
    · rename_i rs0 hx
      refine evC_sound hR hm hh hp x hok.1 cx S w e a rs0 _ hx hS he (fun r hr => ?_)
      obtain ⟨rs1, h1, h2⟩ := bindL_mem hv r hr
      obtain ⟨x1, e', S'⟩ := r
      cases x1 with
      | normal =>
        intro cx' a' w' q1 q2 q3 q4
        exact evC_sound hR hm hh hp y hok.2 cx' S' w' e' a' rs1 Q h1 q1 q3 (fun r hr => (hk r (h2 r hr)).trans q2 q4)
      | exit id => simp only [Option.some.injEq] at h1; subst h1; exact hk _ (h2 _ (List.mem_singleton.2 rfl))
      | ret => simp only [Option.some.injEq] at h1; subst h1; exact hk _ (h2 _ (List.mem_singleton.2 rfl))
      | panic v => simp only [Option.some.injEq] at h1; subst h1; exact hk _ (h2 _ (List.mem_singleton.2 rfl))
    · cases hv
  | .cond c x y, hok => by
    simp only [codeOk, Bool.and_eq_true] at hok
    intro cx S w e a rs Q hv hS he hk
    simp only [evC] at hv
    split at hv
    · rename_i hc
      exact wp_cond_true ((he.eval c _ hc).bool) (evC_sound hR hm hh hp x hok.1 cx S w e a rs Q hv hS he hk)
    · rename_i hc
      exact wp_cond_false ((he.eval c _ hc).bool) (evC_sound hR hm hh hp y hok.2 cx S w e a rs Q hv hS he hk)
    · cases hv
  | .block id c, hok => by
    simp only [codeOk] at hok
    intro cx S w e a rs Q hv hS he hk
    simp only [evC, Option.map_eq_some_iff] at hv
    obtain ⟨rs0, hx, rfl⟩ := hv
    refine wp_block ?_
    refine evC_sound hR hm hh hp c hok cx S w e a rs0 _ hx hS he (fun r hr => ?_)
    have hk' := hk _ (List.mem_map.2 ⟨r, hr, rfl⟩)
    obtain ⟨x1, e', S'⟩ := r
    cases x1 with
    | normal => exact hk'
    | exit j =>
      simp only at hk'
      by_cases hj : j = id
      · subst hj
        rw [if_pos rfl] at hk'
        intro cx' a' w' q1 q2 q3 q4
        simp only [Exit.inBlock, if_true]
        exact hk' cx' a' w' q1 q2 q3 q4
      · rw [if_neg hj] at hk'
        intro cx' a' w' q1 q2 q3 q4
        simp only [Exit.inBlock, if_neg hj]
        exact hk' cx' a' w' q1 q2 q3 q4
    | ret => exact hk'
    | panic v => exact hk'
  | .loop c, hok => by
    simp only [codeOk] at hok
    intro cx S w e a rs Q hv hS he hk b k cs
    simp only [evC] at hv
    have he' : ERel cx S w nt (AL.tidy e []) a := ⟨he.size, fun t x hx => he.rel t x (by rw [AL.get_tidy] at hx; simpa using hx)⟩
    obtain ⟨x, a', w', q, harr⟩ := loop_sound (evC_sound hR hm hh hp c hok) n cx S w _ a rs Q hv hS he' hk b k cs
    exact ⟨x, a', w', q, .of_steps (.one step_loop) harr⟩
  | .rangeFunc _ _ _ _, _ => by intro cx S w e a rs Q hv; simp [evC] at hv
  | .scope _, _ => by intro cx S w e a rs Q hv; simp [evC] at hv
  | .label _, _ => by intro cx S w e a rs Q hv; simp [evC] at hv
  | .goto _, _ => by intro cx S w e a rs Q hv; simp [evC] at hv
  | .refuse _, _ => by intro cx S w e a rs Q hv; simp [evC] at hv

end
end Go.Ev


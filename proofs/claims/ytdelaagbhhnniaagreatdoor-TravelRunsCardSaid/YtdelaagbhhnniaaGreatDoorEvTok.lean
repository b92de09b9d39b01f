import Derived.Test.YtdelaagbhhnniaaGreatDoorEvOp5
namespace Go.Ev
set_option linter.unusedVariables false
set_option linter.unusedSimpArgs false

theorem cur_T {R : ObjR} {cx : Cx} {S : St} {w : World} (h : SRel R cx S w) {id en : Nat} (ht : S.T.get id = some en) : cur S id = some en ∧ S.H.get id = none := by
  unfold cur
  cases hH : S.H.get id with
  | some b => have := h.dis id b hH; rw [this] at ht; cases ht
  | none => exact ⟨ht, rfl⟩

/-- A token's frontier moves on: what is asked of the new place. -/
theorem tok_sound {R : ObjR} (hR : ObjOk R) {cx cx' : Cx} {S : St} {w w' : World} (h : SRel R cx S w) {tok en en' : Nat} (ht : S.T.get tok = some en) (hlt : en < en')
    (hs : w.heap.size ≤ w'.heap.size) (h1 : w'.os = w.os) (h2 : w'.tape = w.tape) (h3 : w'.output = w.output)
    (hoth : ∀ b, b < w.heap.size → b ≠ cx.bm tok → w'.heap[b]? = w.heap[b]?)
    (hcell : ∀ (b o : Nat) (v : Value), ¬ cx.fr b o → w.cell? ⟨b, o, none⟩ = some v → w'.cell? ⟨b, o, none⟩ = some v)
    (hbm : ∀ i, i ≠ tok → cx'.bm i = cx.bm i) (hfp : ∀ i, i ≠ tok → ∀ b, (cx'.fp i b ↔ cx.fp i b)) (htsz : ∀ i, i ≠ tok → cx'.tsz i = cx.tsz i) (htot : ∀ i, i ≠ tok → cx'.tot i = cx.tot i)
    (hfpt : ∀ b, cx'.fp tok b → b = cx.bm tok ∨ (w.heap.size ≤ b ∧ b < w'.heap.size))
    (hfr1 : ∀ b o, ¬ cx.fr b o → b < w.heap.size → ¬ cx'.fr b o) (hfr2 : ∀ b o, b ≠ cx.bm tok → cx.fr b o → cx'.fr b o) (hfr3 : ∀ b o, cx'.fr b o → b < w'.heap.size)
    (hnew : TokR cx' w' tok en') : SRel R cx' { S with T := S.T.set tok en' } w' ∧ Ext cx S w cx' { S with T := S.T.set tok en' } w' := by
  obtain ⟨hc, hH⟩ := cur_T h ht
  obtain ⟨t1, t2, tarr, tel, tfz, t3, t4, t5, t6⟩ := h.toks tok en ht
  have hlive : live S tok := by simp [live, hc]
  have hcur : ∀ i, i ≠ tok → cur { S with T := S.T.set tok en' } i = cur S i := fun i hi => by
    unfold cur; simp only [AL.get_set, if_neg (Ne.symm hi)]
  have hcurt : cur { S with T := S.T.set tok en' } tok = some en' := by unfold cur; simp [hH, AL.get_set]
  have hl' : ∀ i, live { S with T := S.T.set tok en' } i → live S i := fun i hl => by
    by_cases hi : i = tok
    · subst hi; exact hlive
    · unfold live at *; rwa [hcur i hi] at hl
  have e : Ext cx S w cx' { S with T := S.T.set tok en' } w' := by
    refine ⟨hs, h1, h2, h3, Nat.le_refl _, fun b o v hf hcl => ⟨hcell b o v hf hcl, hfr1 b o hf (cell_lt hcl)⟩, fun b hb hn => ?_, fun i b hl hf => ?_, fun i gi _ hi => ⟨gi, hi⟩, fun i gi b _ h0 _ hf => (hfp i (fun q => by subst q; unfold isIt at h0; rw [hH] at h0; cases h0) b).2 hf, fun i g hi hg => ?_⟩
    · have hne : b ≠ cx.bm tok := fun q => notIt hH (by simp) (hn tok hlive ((t1 b).2 q))
      exact ⟨hoth b hb hne, fun o => ⟨fun q => Classical.byContradiction fun q' => hfr1 b o q' hb q, hfr2 b o hne⟩⟩
    · refine ⟨fun _ => ⟨hl' i hl, ?_⟩, fun hge => absurd (h.wf i (hl' i hl)) (by show ¬ i < S.nx; omega)⟩
      by_cases hi : i = tok
      · subst hi
        rcases hfpt b hf with q | q
        · exact .inl ((t1 b).2 q)
        · exact .inr q.1
      · exact .inl ((hfp i hi b).1 hf)
    · by_cases hi' : i = tok
      · subst hi'
        rw [hcurt] at hg
        simp only [Option.some.injEq] at hg
        exact ⟨en, hc, by omega, fun q => by omega⟩
      · rw [hcur i hi'] at hg
        exact ⟨g, hg, Nat.le_refl _, fun _ => ⟨hbm i hi', htsz i hi', htot i hi'⟩⟩
  have hne : ∀ i, live S i → i ≠ tok → ∀ b, cx.fp i b → b ≠ cx.bm tok := fun i hi hne b hf hq => hne (h.sep i tok b hi hlive hf ((t1 b).2 hq))
  refine ⟨⟨fun i hi => h.wf i (hl' i hi), fun i b hi => ?_, fun i g cs hi => ?_, fun i es hi => ?_, fun i k x hi => ?_, fun i n hi => ?_, fun i i' b a1 a2 f1 f2 => ?_, hfr3, hR.stat _ _ _ _ h.stat e.prot⟩, e⟩
  · have q : i ≠ tok := fun q => by subst q; rw [hH] at hi; cases hi
    rw [AL.get_set, if_neg (Ne.symm q)]; exact h.dis i b hi
  · have q : i ≠ tok := fun q => by subst q; rw [hH] at hi; cases hi
    obtain ⟨d1, d2, arr2, el2, d3, d4, d5⟩ := h.cells i g cs hi
    have hb := hne i (by simp [live, cur, hi]) q _ ((d1 _).2 rfl)
    refine ⟨fun b => by rw [hfp i q, hbm i q]; exact d1 b, fun o => by rw [hbm i q]; exact hfr2 _ _ hb (d2 o), arr2, el2, ?_, by rw [htsz i q, htot i q]; exact d4, fun j x hx => by
      obtain ⟨v, v1, v2, v3⟩ := d5 j x hx
      exact ⟨v, v1, v2.mono e, v3⟩⟩
    rw [hbm i q, hoth _ (h.lt _ 0 (d2 0)) hb]; exact d3
  · have q : i ≠ tok := fun q => by subst q; rw [hH] at hi; cases hi
    obtain ⟨d1, d2, ms, clk, d3, d4, d5⟩ := h.maps i es hi
    have hb := hne i (by simp [live, cur, hi]) q _ ((d1 _).2 rfl)
    refine ⟨fun b => by rw [hfp i q, hbm i q]; exact d1 b, fun o => by rw [hbm i q]; exact hfr2 _ _ hb (d2 o), ms, clk, ?_, d4, fun j p m hp hm => by
      obtain ⟨v1, v2⟩ := d5 j p m hp hm
      exact ⟨v1.mono e.prot, v2.mono e⟩⟩
    rw [hbm i q, hoth _ (h.lt _ 0 (d2 0)) hb]; exact d3
  · have q : i ≠ tok := fun q => by subst q; rw [hH] at hi; cases hi
    obtain ⟨d1, d2⟩ := h.objs i k x hi
    have hf : cx'.fp i = cx.fp i := funext fun b => propext (hfp i q b)
    rw [hbm i q, hf]
    have hb := hne i (by simp [live, cur, hi]) q
    exact ⟨hR.frame k x w w' _ _ d1 (fun c hc => hoth c ((hR.lt k x w _ _ d1).1 c hc) (hb c hc)), fun b o hbf => hfr2 b o (hb b hbf) (d2 b o hbf)⟩
  · simp only [AL.get_set] at hi
    by_cases q : tok = i
    · subst q
      rw [if_pos rfl] at hi
      simp only [Option.some.injEq] at hi; subst hi
      exact hnew
    · rw [if_neg q] at hi
      obtain ⟨hci, hHi⟩ := cur_T h hi
      obtain ⟨d1, d2, arr2, el2, fz, d3, d4, d5, d6⟩ := h.toks i n hi
      have hb := hne i (by simp [live, hci]) (Ne.symm q) _ ((d1 _).2 rfl)
      have hlt : cx.bm i < w.heap.size := h.lt _ _ (d2 _ (Nat.le_refl _))
      refine ⟨fun b => by rw [hfp i (Ne.symm q), hbm i (Ne.symm q)]; exact d1 b, fun o ho => ?_, arr2, el2, fz, ?_, ?_, ?_, ?_⟩
      · rw [htsz i (Ne.symm q)] at ho; rw [hbm i (Ne.symm q)]; exact hfr2 _ _ hb (d2 o ho)
      · rw [hbm i (Ne.symm q), hoth _ hlt hb]; exact d3
      · rw [htsz i (Ne.symm q), htot i (Ne.symm q)]; exact d4
      · rw [htot i (Ne.symm q)]; exact d5
      · rw [htsz i (Ne.symm q)]; exact d6
  · by_cases q : i = tok <;> by_cases q' : i' = tok
    · omega
    · exfalso
      subst q
      have f2' := (hfp i' q' b).1 f2
      have hb := hne i' (hl' i' a2) q' b f2'
      rcases hfpt b f1 with z | z
      · exact hb z
      · have := h.fp_lt hR (hl' i' a2) f2'; omega
    · exfalso
      subst q'
      have f1' := (hfp i q b).1 f1
      have hb := hne i (hl' i a1) q b f1'
      rcases hfpt b f2 with z | z
      · exact hb z
      · have := h.fp_lt hR (hl' i a1) f1'; omega
    · exact h.sep i i' b (hl' i a1) (hl' i' a2) ((hfp i q b).1 f1) ((hfp i' q' b).1 f2)

/-- Rows of cells that make the elements of a slice of data. -/
structure Flat (w : World) (fr : Nat → Nat → Prop) (sz : Nat) (xs : List D) (fl : List Value) : Prop where
  len : fl.length = xs.length * sz
  one : ∀ v ∈ fl, v.oneCell' = true
  szs : ∀ x ∈ xs, x.cells.length = sz
  rel : ∀ (i : Nat) (x : D), xs[i]? = some x → CRel w fr x ((fl.drop (i * sz)).take sz)

theorem Flat.mono {w w' : World} {fr fr' : Nat → Nat → Prop} {sz : Nat} {xs : List D} {fl : List Value} (hp : ∀ (b o : Nat) (v : Value), ¬ fr b o → w.cell? ⟨b, o, none⟩ = some v → w'.cell? ⟨b, o, none⟩ = some v ∧ ¬ fr' b o)
    (h : Flat w fr sz xs fl) : Flat w' fr' sz xs fl := ⟨h.len, h.one, h.szs, fun i x hx => (h.rel i x hx).mono hp⟩

theorem Flat.append {w : World} {fr : Nat → Nat → Prop} {sz : Nat} {xs ys : List D} {fl gl : List Value} (h : Flat w fr sz xs fl) (k : Flat w fr sz ys gl) : Flat w fr sz (xs ++ ys) (fl ++ gl) := by
  refine ⟨by simp [h.len, k.len, Nat.add_mul], fun v hv => (List.mem_append.1 hv).elim (h.one v) (k.one v), fun x hx => (List.mem_append.1 hx).elim (h.szs x) (k.szs x), fun i x hx => ?_⟩
  rw [List.getElem?_append] at hx
  by_cases hi : i < xs.length
  · rw [if_pos hi] at hx
    have := h.rel i x hx
    have hle : (i + 1) * sz ≤ xs.length * sz := Nat.mul_le_mul_right sz hi
    rw [Nat.succ_mul] at hle
    have hl := h.len
    rw [List.drop_append_of_le_length (by omega), List.take_append_of_le_length (by simp; omega)]
    exact this
  · rw [if_neg hi] at hx
    have := k.rel _ x hx
    have hge : xs.length * sz ≤ i * sz := Nat.mul_le_mul_right sz (by omega)
    have hl := h.len
    rw [List.drop_append, List.drop_eq_nil_of_le (by omega), List.nil_append]
    rw [show i * sz - fl.length = (i - xs.length) * sz by rw [hl, Nat.sub_mul]]
    exact this

/-- The slice that such rows make in a block that nobody writes. -/
theorem Flat.slice {w : World} {fr : Nat → Nat → Prop} {sz b cap : Nat} {xs : List D} {fl : List Value} (h : Flat w fr sz xs fl) (hc : ∀ (i : Nat) (v : Value), fl[i]? = some v → w.cell? ⟨b, i, none⟩ = some v ∧ ¬ fr b i) (hcap : xs.length ≤ cap) :
    DRel w fr (.sl xs false) (.slice (some ⟨b, 0, none⟩) xs.length cap) := by
  refine slM hcap (fun q => by cases q) (fun hne => ⟨b, 0, sz, fun i => (fl.drop (i * sz)).take sz, rfl, fun i x hx => h.szs x (List.mem_of_getElem? hx), fun i hi => ?_, fun i x hx => h.rel i x hx, fun i j u hi hu => ?_⟩)
  · have hle : (i + 1) * sz ≤ xs.length * sz := Nat.mul_le_mul_right sz hi
    rw [Nat.succ_mul] at hle
    have hl := h.len
    simp; omega
  · rw [Nat.zero_add]
    by_cases hj : j < sz
    · rw [List.getElem?_take, if_pos hj, List.getElem?_drop] at hu
      exact hc _ u hu
    · rw [List.getElem?_take, if_neg hj] at hu; cases hu

theorem sizes_all {sz : Nat} : ∀ {xs : List D}, sizes sz xs = true → ∀ x ∈ xs, x.cells.length = sz
  | [], _, x, hx => by simp at hx
  | y :: ys, h, x, hx => by
    simp only [sizes, Bool.and_eq_true] at h
    rcases List.mem_cons.1 hx with rfl | hx
    · exact Nat.eq_of_beq_eq_true h.1
    · exact sizes_all h.2 x hx

/-- A slice's cells, read. -/
theorem first_sound {P : Program} {w : World} {fr : Nat → Nat → Prop} {xs : List D} {tight : Bool} {v : Value} {sz : Nat} (h : DRel w fr (.sl xs tight) v) (hs : sizes sz xs = true) :
    ∃ fl, (Builtin.firstCells sz xs.length v).run P w = .ok fl.toArray w ∧ Flat w fr sz xs fl ∧
      ∀ b off len cap, v = .slice (some ⟨b, off, none⟩) len cap → ∀ (j : Nat) (u : Value), fl[j]? = some u → w.cell? ⟨b, off + j, none⟩ = some u := by
  obtain ⟨a, cap, rfl, hcap, _, hm⟩ := slI h
  by_cases hne : xs = []
  · subst hne
    refine ⟨[], ?_, ⟨by simp, by simp, by simp, by simp⟩, by simp⟩
    cases a <;> simp [Builtin.firstCells, loadCells, loadCellsFrom]
  · obtain ⟨b, off, sz', vs, rfl, h1, h2, h3, h4⟩ := hm hne
    have hsz : sz' = sz := by
      cases xs with
      | nil => exact absurd rfl hne
      | cons x xs => have q := h1 0 x rfl; have := sizes_all hs x (by simp); omega
    subst hsz
    have key : ∀ (n : Nat), n ≤ xs.length → ∃ fl : List Value, fl.length = n * sz' ∧ (∀ j v, fl[j]? = some v → w.cell? ⟨b, off + j, none⟩ = some v) ∧ (∀ i, i < n → (fl.drop (i * sz')).take sz' = vs i) := by
      intro n
      induction n with
      | zero => intro _; exact ⟨[], by simp, by simp, by omega⟩
      | succ n ih =>
        intro hn
        obtain ⟨fl, a1, a2, a3⟩ := ih (by omega)
        have hl := h2 n (by omega)
        refine ⟨fl ++ vs n, by simp [a1, hl, Nat.succ_mul], fun j v hj => ?_, fun i hi => ?_⟩
        · rw [List.getElem?_append] at hj
          by_cases hlt : j < fl.length
          · rw [if_pos hlt] at hj; exact a2 j v hj
          · rw [if_neg hlt] at hj
            have := (h4 n _ v (by omega) hj).1
            rw [a1] at this
            rw [show off + j = off + n * sz' + (j - n * sz') by omega]
            exact this
        · by_cases hi' : i < n
          · rw [← a3 i hi']
            have hle : (i + 1) * sz' ≤ n * sz' := Nat.mul_le_mul_right sz' hi'
            rw [Nat.succ_mul] at hle
            rw [List.drop_append_of_le_length (by omega), List.take_append_of_le_length (by simp; omega)]
          · have : i = n := by omega
            subst this
            rw [← a1, List.drop_append_of_le_length (by omega), List.drop_length, List.nil_append, ← hl, List.take_length]
    obtain ⟨fl, a1, a2, a3⟩ := key xs.length (Nat.le_refl _)
    refine ⟨fl, ?_, ⟨a1, fun v hv => ?_, sizes_all hs, fun i x hx => ?_⟩, fun b' off' len' cap' hv => by simp only [Value.slice.injEq, Option.some.injEq, Addr.mk.injEq] at hv; obtain ⟨⟨q1, q2, _⟩, _, _⟩ := hv; subst q1; subst q2; exact a2⟩
    · have := run_loadCells_list (P := P) w ⟨b, off, none⟩ fl (fun j v hj => by rw [add_at]; exact a2 j v hj)
      simp only [Builtin.firstCells, ← a1]
      exact this
    · obtain ⟨j, hj⟩ := List.mem_iff_getElem?.1 hv
      have hlt : j < xs.length * sz' := by rw [← a1]; exact (List.getElem?_eq_some_iff.1 hj).1
      have hpos : 0 < sz' := Nat.pos_of_ne_zero (fun q => by subst q; simp at hlt)
      have hq : j / sz' < xs.length := Nat.div_lt_of_lt_mul (by rw [Nat.mul_comm]; exact hlt)
      have hx := List.getElem?_eq_getElem hq
      refine (h3 _ _ hx).cells.2.1 v ?_
      rw [← a3 _ hq]
      refine List.mem_of_getElem? (i := j % sz') ?_
      rw [List.getElem?_take, if_pos (Nat.mod_lt _ hpos), List.getElem?_drop]
      rw [Nat.div_add_mod' j sz']
      exact hj
    · rw [a3 i (List.getElem?_eq_some_iff.1 hx).1]; exact h3 i x hx

/-- A text's bytes, read. -/
theorem first_str {P : Program} {w : World} {fr : Nat → Nat → Prop} (b : ByteArray) : ∃ fl, (Builtin.firstCells 1 b.size (.string b)).run P w = .ok fl.toArray w ∧
    Flat w fr 1 (b.data.toList.map fun c => .int .u8 c.toNat) fl := by
  refine ⟨b.data.toList.map fun c => .int .u8 c.toNat, ?_, by simp, by simp [Value.oneCell'], by simp [D.cells], fun i x hx => ?_⟩
  · simp only [Builtin.firstCells, Sem.run_pure]
    congr 1
    have : b.extract 0 b.size = b := by
      apply ByteArray.ext
      rw [ByteArray.data_extract]
      show b.data.extract 0 b.data.size = b.data
      simp
    rw [this]
    apply Array.ext'
    rw [Array.toList_map]
  · simp only [List.getElem?_map, Option.map_eq_some_iff] at hx
    obtain ⟨c, hc, rfl⟩ := hx
    have hi := (List.getElem?_eq_some_iff.1 hc).1
    have : ((b.data.toList.map fun c => Value.int .u8 c.toNat).drop (i * 1)).take 1 = [.int .u8 c.toNat] := by
      rw [Nat.mul_one, List.drop_eq_getElem_cons (by simpa using hi)]
      have := (List.getElem?_eq_some_iff.1 hc).2
      simp at this ⊢
      exact this ▸ rfl
    rw [this]
    exact .int _ _

end Go.Ev

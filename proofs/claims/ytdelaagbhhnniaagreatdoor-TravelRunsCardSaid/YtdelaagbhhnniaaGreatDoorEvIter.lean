import Derived.Test.YtdelaagbhhnniaaGreatDoorEvMap2
namespace Go.Ev
set_option linter.unusedVariables false
set_option linter.unusedSimpArgs false

/-- An object goes on in another state, or is put away. -/
theorem obj_sound {R : ObjR} (hR : ObjOk R) {cx cx' : Cx} {S S' : St} {w w' : World} (h : SRel R cx S w) {id k0 : Nat} {x0 : D} (hg : S.H.get id = some (.obj k0 x0)) (hmo : ∀ k x, S'.H.get id = some (.obj k x) → genD x0 ≤ genD x) (hbk : ∀ g, isIt S' id g → ∃ g', isIt S id g') (hdi : ∀ g, isIt S id g → ¬ isIt S' id g)
    (hT : S'.T = S.T) (hnx : S'.nx = S.nx) (hH : ∀ i, i ≠ id → S'.H.get i = S.H.get i) (hHid : S'.H.get id = none ∨ ∃ k x, S'.H.get id = some (.obj k x) ∧ R.rel k x w' (cx'.bm id) (cx'.fp id))
    (hs : w.heap.size ≤ w'.heap.size) (h1 : w'.os = w.os) (h2 : w'.tape = w.tape) (h3 : w'.output = w.output)
    (hoth : ∀ b, b < w.heap.size → ¬ cx.fp id b → w'.heap[b]? = w.heap[b]?)
    (hbm : ∀ i, cx'.bm i = cx.bm i) (hfp : ∀ i, i ≠ id → ∀ b, (cx'.fp i b ↔ cx.fp i b)) (htsz : ∀ i, cx'.tsz i = cx.tsz i) (htot : ∀ i, cx'.tot i = cx.tot i)
    (hfpt : ∀ b, cx'.fp id b → cx.fp id b ∨ (w.heap.size ≤ b ∧ b < w'.heap.size)) (hfpf : ∀ b o, cx'.fp id b → cx'.fr b o)
    (hfr1 : ∀ b o, ¬ cx.fr b o → b < w.heap.size → ¬ cx'.fr b o) (hfr2 : ∀ b o, cx.fr b o → cx'.fr b o) (hfr3 : ∀ b o, cx'.fr b o → b < w'.heap.size) :
    SRel R cx' S' w' ∧ Ext cx S w cx' S' w' := by
  obtain ⟨t1, t2⟩ := h.objs id k0 x0 hg
  have hlive : live S id := by simp [live, cur, hg]
  have hcur : ∀ i, i ≠ id → cur S' i = cur S i := fun i hi => by
    unfold cur; rw [hH i hi, hT]
  have hcurt : ∀ g, cur S' id = some g → genD x0 ≤ g := fun g hc => by
    unfold cur at hc
    rcases hHid with q | ⟨k, x, q, _⟩
    · rw [q, hT, h.dis id _ hg] at hc; cases hc
    · have := hmo k x q
      rw [q] at hc
      simp only [Option.some.injEq] at hc
      omega
  have hl' : ∀ i, live S' i → live S i := fun i hl => by
    by_cases hi : i = id
    · subst hi; exact hlive
    · unfold live at *; rwa [hcur i hi] at hl
  have e : Ext cx S w cx' S' w' := by
    refine ⟨hs, h1, h2, h3, by rw [hnx]; exact Nat.le_refl _, fun b o v hf hcl => ⟨?_, hfr1 b o hf (cell_lt hcl)⟩, fun b hb hn => ?_, fun i b hl hf => ?_, fun i gi _ hi => ?_, fun i gi b _ h0 h2 hf => ?_, fun i gg hi hgg => ?_⟩
    · exact cell_old (hoth b (cell_lt hcl) (fun q => hf (t2 b o q))) hcl
    · exact ⟨hoth b hb (fun q => by obtain ⟨_, g, z1, z2⟩ := hn id hlive q; exact hdi g z1 z2), fun o => ⟨fun q => Classical.byContradiction fun q' => hfr1 b o q' hb q, hfr2 b o⟩⟩
    · refine ⟨fun _ => ⟨hl' i hl, ?_⟩, fun hge => absurd (h.wf i (hl' i hl)) (by show ¬ i < S.nx; omega)⟩
      by_cases hi : i = id
      · subst hi
        rcases hfpt b hf with q | q
        · exact .inl q
        · exact .inr q.1
      · exact .inl ((hfp i hi b).1 hf)
    · by_cases q : i = id
      · subst q; exact hbk gi hi
      · exact ⟨gi, by unfold isIt at *; rwa [hH i q] at hi⟩
    · have q : i ≠ id := fun q => by subst q; exact hdi gi h0 h2
      exact (hfp i q b).2 hf
    · by_cases hi' : i = id
      · subst hi'
        have := hcurt gg hgg
        exact ⟨genD x0, by simp [cur, hg], this, fun _ => ⟨hbm i, htsz i, htot i⟩⟩
      · rw [hcur i hi'] at hgg
        exact ⟨gg, hgg, Nat.le_refl _, fun _ => ⟨hbm i, htsz i, htot i⟩⟩
  have hne : ∀ i, live S i → i ≠ id → ∀ b, cx.fp i b → ¬ cx.fp id b := fun i hi hne b hf hq => hne (h.sep i id b hi hlive hf hq)
  refine ⟨⟨fun i hi => by rw [hnx]; exact h.wf i (hl' i hi), fun i b hi => ?_, fun i gg cs2 hi => ?_, fun i es hi => ?_, fun i k x hi => ?_, fun i n hi => ?_, fun i i' b a1 a2 f1 f2 => ?_, hfr3, hR.stat _ _ _ _ h.stat e.prot⟩, e⟩
  · rw [hT]
    by_cases q : i = id
    · subst q; exact h.dis i _ hg
    · rw [hH i q] at hi; exact h.dis i b hi
  · by_cases q : i = id
    · subst q
      rcases hHid with z | ⟨k, x, z, _⟩
      · rw [z] at hi; cases hi
      · rw [z] at hi; cases hi
    · rw [hH i q] at hi
      obtain ⟨d1, d2, arr2, el2, d3, d4, d5⟩ := h.cells i gg cs2 hi
      have hb := hne i (by simp [live, cur, hi]) q _ ((d1 _).2 rfl)
      refine ⟨fun b => by rw [hfp i q, hbm i]; exact d1 b, fun o => by rw [hbm i]; exact hfr2 _ _ (d2 o), arr2, el2, ?_, by rw [htsz i, htot i]; exact d4, fun j x hx => by
        obtain ⟨v, v1, v2, v3⟩ := d5 j x hx
        exact ⟨v, v1, v2.mono e, v3⟩⟩
      rw [hbm i, hoth _ (h.lt _ 0 (d2 0)) hb]; exact d3
  · by_cases q : i = id
    · subst q
      rcases hHid with z | ⟨k, x, z, _⟩
      · rw [z] at hi; cases hi
      · rw [z] at hi; cases hi
    · rw [hH i q] at hi
      obtain ⟨d1, d2, ms, clk, d3, d4, d5⟩ := h.maps i es hi
      have hb := hne i (by simp [live, cur, hi]) q _ ((d1 _).2 rfl)
      refine ⟨fun b => by rw [hfp i q, hbm i]; exact d1 b, fun o => by rw [hbm i]; exact hfr2 _ _ (d2 o), ms, clk, ?_, d4, fun j p m hp hm => by
        obtain ⟨v1, v2⟩ := d5 j p m hp hm
        exact ⟨v1.mono e.prot, v2.mono e⟩⟩
      rw [hbm i, hoth _ (h.lt _ 0 (d2 0)) hb]; exact d3
  · by_cases q : i = id
    · subst q
      rcases hHid with z | ⟨k', x', z, hr⟩
      · rw [z] at hi; cases hi
      · rw [z] at hi; cases hi
        exact ⟨hr, hfpf⟩
    · rw [hH i q] at hi
      obtain ⟨d1, d2⟩ := h.objs i k x hi
      have hf : cx'.fp i = cx.fp i := funext fun b => propext (hfp i q b)
      rw [hbm i, hf]
      have hb := hne i (by simp [live, cur, hi]) q
      exact ⟨hR.frame k x w w' _ _ d1 (fun c hc => hoth c ((hR.lt k x w _ _ d1).1 c hc) (hb c hc)), fun b o hbf => hfr2 b o (d2 b o hbf)⟩
  · rw [hT] at hi
    have q : i ≠ id := fun q => by subst q; have := h.dis i _ hg; rw [this] at hi; cases hi
    obtain ⟨hci, hHi⟩ := cur_T h hi
    obtain ⟨d1, d2, arr2, el2, fz, d3, d4, d5, d6⟩ := h.toks i n hi
    have hb := hne i (by simp [live, hci]) q _ ((d1 _).2 rfl)
    have hlt : cx.bm i < w.heap.size := h.lt _ _ (d2 _ (Nat.le_refl _))
    refine ⟨fun b => by rw [hfp i q, hbm i]; exact d1 b, fun o ho => ?_, arr2, el2, fz, ?_, ?_, ?_, ?_⟩
    · rw [htsz i] at ho; rw [hbm i]; exact hfr2 _ _ (d2 o ho)
    · rw [hbm i, hoth _ hlt hb]; exact d3
    · rw [htsz i, htot i]; exact d4
    · rw [htot i]; exact d5
    · rw [htsz i]; exact d6
  · by_cases q : i = id <;> by_cases q' : i' = id
    · omega
    · exfalso
      subst q
      have f2' := (hfp i' q' b).1 f2
      rcases hfpt b f1 with z | z
      · exact hne i' (hl' i' a2) q' b f2' z
      · have := h.fp_lt hR (hl' i' a2) f2'; omega
    · exfalso
      subst q'
      have f1' := (hfp i q b).1 f1
      rcases hfpt b f2 with z | z
      · exact hne i (hl' i a1) q b f1' z
      · have := h.fp_lt hR (hl' i a1) f1'; omega
    · exact h.sep i i' b (hl' i a1) (hl' i' a2) ((hfp i q b).1 f1) ((hfp i' q' b).1 f2)


/-- A new iterator. -/
theorem newit_sound {R : ObjR} (hR : ObjOk R) {cx : Cx} {S : St} {w : World} (hS : SRel R cx S w) (m : Option Nat) (since st : Nat) (seen : Array Nat) :
    ∃ cx', SRel R cx' (newBlk S (.obj 3 (.int .i64 0))) (w.alloc (.mapIter m since seen st)) ∧ Ext cx S w cx' (newBlk S (.obj 3 (.int .i64 0))) (w.alloc (.mapIter m since seen st)) ∧
      Names (newBlk S (.obj 3 (.int .i64 0))) S.nx 0 ∧ (w.heap.size = cx'.bm S.nx ∧ cx'.fp S.nx w.heap.size ∧ (∀ i, cur (newBlk S (.obj 3 (.int .i64 0))) i ≠ none → cx'.fp i w.heap.size → i = S.nx) ∧
        (w.alloc (.mapIter m since seen st)).heap[w.heap.size]? = some (.mapIter m since seen st)) := by
  obtain ⟨cx', k1, k2, k3⟩ := newobj_sound hR hS 3 (.int .i64 0) (.mapIter m since seen st) rfl ((hR.it _ _ _ _).2 ⟨by rw [size_alloc]; omega, fun c => Iff.rfl⟩)
  have hget : (newBlk S (.obj 3 (.int .i64 0))).H.get S.nx = some (.obj 3 (.int .i64 0)) := by simp [newBlk, AL.get_set]
  have hcur : cur (newBlk S (.obj 3 (.int .i64 0))) S.nx = some 0 := by unfold cur; rw [hget]; rfl
  cases k3 with
  | ptr _ _ _ _ hn hp =>
  have hb := hp hcur
  have hf : cx'.fp S.nx w.heap.size := ((((hR.it _ _ _ _).1 (k1.objs _ _ _ hget).1).2) _).2 hb
  exact ⟨cx', k1, k2, hn, hb, hf, fun i hi hfi => k1.sep i S.nx _ hi (by simp [live, hcur]) hfi hf, heap_alloc_new w _⟩

theorem range_sound {R : ObjR} (hR : ObjOk R) {C : Cfg} {cx : Cx} {S : St} {w : World} (hS : SRel R cx S w) {t id : Nat} {kt : Nat × Nat} {M : MapD} {v : Value} (ht : keyT C t = some kt) (hg : S.H.get id = some (.map M)) (hx : ARel cx S w (.map id) v) :
    ∃ cx' w' u, (Instr.range t v).run C.P w = .ok u w' ∧ SRel R cx' (newBlk S (.obj 3 (.int .i64 0))) w' ∧ Ext cx S w cx' (newBlk S (.obj 3 (.int .i64 0))) w' ∧ ARel cx' (newBlk S (.obj 3 (.int .i64 0))) w' (.it S.nx 0 (some id) M.clk [] M.clk) u := by
  have hu := keyT_some (k := kt.1) (e := kt.2) ht
  cases hx with
  | map _ b hn hp =>
  obtain ⟨p1, ms, p2, p3, p4, p5⟩ := map_esr hS hg (.map id b hn hp)
  subst p1
  obtain ⟨cx', k1, k2, k3, k4⟩ := newit_sound hR hS (some (cx.bm id)) M.clk M.clk #[]
  refine ⟨cx', _, .pointer (some ⟨w.heap.size, 0, none⟩), ?_, k1, k2, ?_⟩
  · simp only [Instr.range, Sem.run_bind, run_und w hu, Result.andThen_ok, MapKept.run_getObj_map p2, Sem.run_pure]
    rfl
  · refine .it S.nx 0 id M.clk M.clk w.heap.size (cx.bm id) [] k3 (hn.mono k2) (fun hc => ?_) (fun _ => k4)
    exact (hn.pos k2 hc).2.1.symm

theorem range_nil_sound {R : ObjR} (hR : ObjOk R) {C : Cfg} {cx : Cx} {S : St} {w : World} (hS : SRel R cx S w) {t : Nat} {kt : Nat × Nat} {v : Value} (ht : keyT C t = some kt) (hx : ARel cx S w (.d .nilm) v) :
    ∃ cx' w' u, (Instr.range t v).run C.P w = .ok u w' ∧ SRel R cx' (newBlk S (.obj 3 (.int .i64 0))) w' ∧ Ext cx S w cx' (newBlk S (.obj 3 (.int .i64 0))) w' ∧ ARel cx' (newBlk S (.obj 3 (.int .i64 0))) w' (.it S.nx 0 none 0 [] 0) u := by
  have hu := keyT_some (k := kt.1) (e := kt.2) ht
  have := hx.dd.val rfl
  cases this
  obtain ⟨cx', k1, k2, k3, k4⟩ := newit_sound hR hS none 0 0 #[]
  refine ⟨cx', _, .pointer (some ⟨w.heap.size, 0, none⟩), ?_, k1, k2, .it0 S.nx 0 0 0 w.heap.size [] k3 (fun _ => k4)⟩
  simp only [Instr.range, Sem.run_bind, run_und w hu, Result.andThen_ok, Sem.run_pure]
  rfl

theorem entry_sound2 {R : ObjR} {C : Cfg} {cx : Cx} {S : St} {w : World} (hS : SRel R cx S w) {k g id since st n i : Nat} {seen : List Nat} {M : MapD} {p : D × AV × Nat} {v : Value} (hx : ARel cx S w (.it k g (some id) since seen st) v)
    (hg : S.H.get id = some (.map M)) (hl : seen.getLast? = some n) (hk : isIt S k g) (hc : M.clk = st) (hf : findBorn n M.es 0 = some i) (hp : M.es[i]? = some p) :
    ∃ u, (Instr.entry v).run C.P w = .ok u w ∧ ARel cx S w (.tup [.d p.1, p.2.1]) u := by
  cases hx with
  | it _ _ _ _ _ b m _ hn hni hm hpos =>
  obtain ⟨_, _, _, hb⟩ := hpos hk
  have hm := hm (by simp [cur, hg])
  subst hm
  obtain ⟨c1, c2, ms, clk, c3, ⟨c4, c4', c4''⟩, c5⟩ := hS.maps id M hg
  subst c4'
  have hlt : i < ms.size := by rw [c4]; exact (List.getElem?_eq_some_iff.1 hp).1
  have hmi : ms[i]? = some ms[i] := Array.getElem?_eq_getElem hlt
  obtain ⟨r1, r2⟩ := c5 i p _ hp hmi
  obtain ⟨_, ⟨q, f2, f3⟩, f4⟩ := findBorn_spec hf
  rw [Nat.sub_zero] at f2
  have hqp : q = p := by rw [hp] at f2; exact (Option.some.inj f2).symm
  subst hqp
  have hfind : ms.find? (fun e => e.born == n) = some ms[i] := by
    rw [Array.find?_eq_some_iff_getElem]
    refine ⟨by simp [c4'' i q _ hp hmi, f3], i, hlt, rfl, fun j hj => ?_⟩
    have hjl : j < M.es.length := by rw [← c4]; omega
    have hq := List.getElem?_eq_getElem hjl
    have hbj := c4'' j M.es[j] ms[j] hq (Array.getElem?_eq_getElem (by omega))
    have hne := f4 j M.es[j] (Nat.zero_le _) hj (by rw [Nat.sub_zero]; exact hq)
    simp [hbj, hne]
  have hgo : (getObj b).run C.P w = .ok (.mapIter (some (cx.bm id)) since seen.toArray st) w := by simp [getObj, Sem.run, hb]
  have hback : seen.toArray.back? = some n := by simpa using hl
  refine ⟨.tuple #[ms[i].key, ms[i].val], ?_, ?_⟩
  · simp only [Instr.entry, Sem.run_bind, Sem.run_pure, Result.andThen_ok, hgo, hback, MapKept.run_getObj_map c3, hc]
    rw [if_neg (by simp)]
    simp only [hfind, Sem.run_pure]
  · refine .tup _ [ms[i].key, ms[i].val] rfl (fun j x u hx hu => ?_)
    match j, hx, hu with
    | 0, hx, hu => simp at hx hu; subst hx; subst hu; exact .d _ _ r1
    | 1, hx, hu => simp at hx hu; subst hx; subst hu; exact r2

end Go.Ev

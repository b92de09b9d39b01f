import Derived.Test.YtdelaagbhhnniaaGreatDoorEvRel
namespace Go.Ev
set_option linter.unusedVariables false
set_option linter.unusedSimpArgs false

def Cx.new (cx : Cx) (n B sz tt : Nat) (F : Nat → Prop) : Cx where
  bm := fun i => if i = n then B else cx.bm i
  fp := fun i b => if i = n then b = B else cx.fp i b
  tsz := fun i => if i = n then sz else cx.tsz i
  tot := fun i => if i = n then tt else cx.tot i
  fr := fun b o => (b = B ∧ F o) ∨ cx.fr b o

theorem cell_lt {w : World} {b o : Nat} {v : Value} (h : w.cell? ⟨b, o, none⟩ = some v) : b < w.heap.size := by
  rcases Nat.lt_or_ge b w.heap.size with q | q
  · exact q
  · simp [World.cell?, Array.getElem?_eq_none q] at h

theorem heap_alloc_old (w : World) (o : Obj) {b : Nat} (h : b < w.heap.size) : (w.alloc o).heap[b]? = w.heap[b]? := by
  show (w.heap.push o)[b]? = _
  rw [Array.getElem?_push, if_neg (by omega)]
theorem heap_alloc_new (w : World) (o : Obj) : (w.alloc o).heap[w.heap.size]? = some o := by
  show (w.heap.push o)[w.heap.size]? = _
  rw [Array.getElem?_push, if_pos rfl]
theorem size_alloc (w : World) (o : Obj) : (w.alloc o).heap.size = w.heap.size + 1 := by
  show (w.heap.push o).size = _
  simp

theorem cell_old {w w' : World} {b o : Nat} {v : Value} (hb : w'.heap[b]? = w.heap[b]?) (h : w.cell? ⟨b, o, none⟩ = some v) : w'.cell? ⟨b, o, none⟩ = some v := by
  simp only [World.cell?] at h ⊢
  rw [hb]; exact h

theorem cell_of {w : World} {b o : Nat} {arr : Array Value} {el : Nat} {fz : Nat × Nat} (hb : w.heap[b]? = some (.cells arr el fz)) : w.cell? ⟨b, o, none⟩ = arr[o]? := by
  simp [World.cell?, hb]

/-- The memory when a new id comes in: nothing else is said of it. -/
theorem Ext.fresh {R : ObjR} {cx : Cx} {S S' : St} {w : World} (h : SRel R cx S w) (o : Obj) (sz tt : Nat) (F : Nat → Prop) (hnx : S'.nx = S.nx + 1)
    (hc : ∀ id, id ≠ S.nx → cur S' id = cur S id) (hH : ∀ id, id ≠ S.nx → S'.H.get id = S.H.get id) : Ext cx S w (cx.new S.nx w.heap.size sz tt F) S' (w.alloc o) where
  size := by rw [size_alloc]; omega
  os := rfl
  tape := rfl
  output := rfl
  nx := by omega
  prot := fun b o' v hf hcl => by
    have hlt := cell_lt hcl
    refine ⟨cell_old (heap_alloc_old w o hlt) hcl, ?_⟩
    simp only [Cx.new]
    rintro (⟨h1, _⟩ | h1)
    · omega
    · exact hf h1
  other := fun b hlt _ => ⟨heap_alloc_old w o hlt, fun o' => by
    simp only [Cx.new]
    constructor
    · rintro (⟨h1, _⟩ | h1)
      · omega
      · exact h1
    · exact .inr⟩
  own := fun id b hl hf => by
    simp only [Cx.new] at hf
    by_cases hid : id = S.nx
    · rw [if_pos hid] at hf
      exact ⟨fun hlt => by omega, fun _ => by omega⟩
    · rw [if_neg hid] at hf
      have hl' : live S id := by unfold live at *; rwa [hc id hid] at hl
      exact ⟨fun _ => ⟨hl', .inl hf⟩, fun hge => by have := h.wf id hl'; omega⟩
  back := fun id g hid hg => ⟨g, by unfold isIt at *; rwa [hH id (by omega)] at hg⟩
  keep := fun id g b hid _ _ hf => by simpa [Cx.new, show id ≠ S.nx by omega] using hf
  curs := fun id g hid hg => by
    rw [hc id (by omega)] at hg
    refine ⟨g, hg, Nat.le_refl _, fun _ => ?_⟩
    simp [Cx.new, show id ≠ S.nx by omega]

theorem SRel.fp_lt {R : ObjR} (hR : ObjOk R) {cx : Cx} {S : St} {w : World} (h : SRel R cx S w) {id b : Nat} (hl : live S id) (hf : cx.fp id b) : b < w.heap.size := by
  unfold live cur at hl
  cases hH : S.H.get id with
  | some blk =>
    cases blk with
    | cells g cs => have := h.cells id g cs hH; rw [this.fp] at hf; subst hf; exact h.lt _ 0 (this.fr 0)
    | map es => have := h.maps id es hH; rw [this.fp] at hf; subst hf; exact h.lt _ 0 (this.fr 0)
    | obj k x => exact (hR.lt k x w _ _ (h.objs id k x hH).1).1 b hf
  | none =>
    cases hT : S.T.get id with
    | some en => have := h.toks id en hT; rw [this.fp] at hf; subst hf; exact h.lt _ _ (this.fr _ (Nat.le_refl _))
    | none => simp [hH, hT] at hl

/-- All but a new id stays. -/
theorem SRel.fresh {R : ObjR} (hR : ObjOk R) {cx : Cx} {S S' : St} {w : World} (h : SRel R cx S w) (o : Obj) (sz tt : Nat) (F : Nat → Prop) (hnx : S'.nx = S.nx + 1)
    (hH : ∀ id, id ≠ S.nx → S'.H.get id = S.H.get id) (hT : ∀ id, id ≠ S.nx → S'.T.get id = S.T.get id)
    (hd : ∀ b, S'.H.get S.nx = some b → S'.T.get S.nx = none)
    (h1 : ∀ g cs, S'.H.get S.nx = some (.cells g cs) → CellsR (cx.new S.nx w.heap.size sz tt F) S' (w.alloc o) S.nx cs)
    (h2 : ∀ es, S'.H.get S.nx = some (.map es) → MapR (cx.new S.nx w.heap.size sz tt F) S' (w.alloc o) S.nx es)
    (h3 : ∀ k x, S'.H.get S.nx = some (.obj k x) → R.rel k x (w.alloc o) ((cx.new S.nx w.heap.size sz tt F).bm S.nx) ((cx.new S.nx w.heap.size sz tt F).fp S.nx) ∧ ∀ b o', (cx.new S.nx w.heap.size sz tt F).fp S.nx b → (cx.new S.nx w.heap.size sz tt F).fr b o')
    (h4 : ∀ en, S'.T.get S.nx = some en → TokR (cx.new S.nx w.heap.size sz tt F) (w.alloc o) S.nx en) : SRel R (cx.new S.nx w.heap.size sz tt F) S' (w.alloc o) := by
  have hc : ∀ id, id ≠ S.nx → cur S' id = cur S id := fun id hid => by unfold cur; rw [hH id hid, hT id hid]
  have e := Ext.fresh h o sz tt F hnx hc hH
  have hl : ∀ id, id ≠ S.nx → live S' id → live S id := fun id hid hl => by unfold live at *; rwa [hc id hid] at hl
  refine ⟨fun id hv => ?_, fun id b hb => ?_, fun id g cs hg => ?_, fun id es hg => ?_, fun id k x hg => ?_, fun id en hg => ?_, fun id id' b hv hv' hf hf' => ?_, fun b o' hf => ?_, hR.stat _ _ _ _ h.stat e.prot⟩
  · by_cases hid : id = S.nx
    · omega
    · have := h.wf id (hl id hid hv); omega
  · by_cases hid : id = S.nx
    · subst hid; exact hd b hb
    · rw [hT id hid]; rw [hH id hid] at hb; exact h.dis id b hb
  · by_cases hid : id = S.nx
    · subst hid; exact h1 g cs hg
    · rw [hH id hid] at hg
      obtain ⟨a, b, arr, el, q1, q2, q3⟩ := h.cells id g cs hg
      refine ⟨fun c => by simp only [Cx.new, if_neg hid]; exact a c, fun o' => by simp only [Cx.new, if_neg hid]; exact .inr (b o'), arr, el, ?_, by simp only [Cx.new, if_neg hid]; exact q2, fun i x hx => ?_⟩
      · simp only [Cx.new, if_neg hid]
        rw [heap_alloc_old w o (h.lt _ 0 (b 0))]; exact q1
      · obtain ⟨v, v1, v2, v3⟩ := q3 i x hx
        exact ⟨v, v1, v2.mono e, v3⟩
  · by_cases hid : id = S.nx
    · subst hid; exact h2 es hg
    · rw [hH id hid] at hg
      obtain ⟨a, b, ms, clk, q1, q2, q3⟩ := h.maps id es hg
      refine ⟨fun c => by simp only [Cx.new, if_neg hid]; exact a c, fun o' => by simp only [Cx.new, if_neg hid]; exact .inr (b o'), ms, clk, ?_, q2, fun i p m hp hm => ?_⟩
      · simp only [Cx.new, if_neg hid]
        rw [heap_alloc_old w o (h.lt _ 0 (b 0))]; exact q1
      · obtain ⟨v1, v2⟩ := q3 i p m hp hm
        exact ⟨v1.mono e.prot, v2.mono e⟩
  · by_cases hid : id = S.nx
    · subst hid; exact h3 k x hg
    · rw [hH id hid] at hg
      obtain ⟨a, b⟩ := h.objs id k x hg
      simp only [Cx.new, if_neg hid]
      exact ⟨hR.frame k x w _ _ _ a (fun c hc => heap_alloc_old w o ((hR.lt k x w _ _ a).1 c hc)), fun c o' hf => .inr (b c o' hf)⟩
  · by_cases hid : id = S.nx
    · subst hid; exact h4 en hg
    · rw [hT id hid] at hg
      obtain ⟨a, b, arr, el, fz, q1, q2, q3, q4⟩ := h.toks id en hg
      have hlt : cx.bm id < w.heap.size := h.lt _ _ (b _ (Nat.le_refl _))
      refine ⟨fun c => by simp only [Cx.new, if_neg hid]; exact a c, fun o' ho => by simp only [Cx.new, if_neg hid] at ho ⊢; exact .inr (b o' ho), arr, el, fz, ?_, ?_, ?_, ?_⟩
      · simp only [Cx.new, if_neg hid]; rw [heap_alloc_old w o hlt]; exact q1
      · simp only [Cx.new, if_neg hid]; exact q2
      · simp only [Cx.new, if_neg hid]; exact q3
      · simp only [Cx.new, if_neg hid]; exact q4
  · simp only [Cx.new] at hf hf'
    by_cases hid : id = S.nx <;> by_cases hid' : id' = S.nx
    · omega
    · rw [if_pos hid] at hf; rw [if_neg hid'] at hf'
      have := h.fp_lt hR (hl id' hid' hv') hf'; omega
    · rw [if_neg hid] at hf; rw [if_pos hid'] at hf'
      have := h.fp_lt hR (hl id hid hv) hf; omega
    · rw [if_neg hid] at hf; rw [if_neg hid'] at hf'
      exact h.sep id id' b (hl id hid hv) (hl id' hid' hv') hf hf'
  · simp only [Cx.new] at hf
    rw [size_alloc]
    rcases hf with ⟨q, _⟩ | q
    · omega
    · have := h.lt b o' q; omega

theorem not_live_nx {R : ObjR} {cx : Cx} {S : St} {w : World} (h : SRel R cx S w) : S.H.get S.nx = none ∧ S.T.get S.nx = none := by
  have hn : ¬ live S S.nx := fun hl => by have := h.wf _ hl; omega
  unfold live cur at hn
  cases hH : S.H.get S.nx with
  | some b => cases b <;> simp [hH] at hn
  | none => simp [hH] at hn; exact ⟨rfl, hn⟩

/-- A new variable. -/
theorem new_sound {R : ObjR} (hR : ObjOk R) {cx : Cx} {S : St} {w : World} (h : SRel R cx S w) (cs : List AV) (vs : List Value) (el : Nat) (hl : vs.length = cs.length)
    (hv : ∀ (i : Nat) (x : AV) (v : Value), cs[i]? = some x → vs[i]? = some v → ARel cx S w x v ∧ v.oneCell' = true) :
    ∃ cx', SRel R cx' (opNew S cs).2 (w.alloc (.cells vs.toArray el)) ∧ Ext cx S w cx' (opNew S cs).2 (w.alloc (.cells vs.toArray el)) ∧
      ARel cx' (opNew S cs).2 (w.alloc (.cells vs.toArray el)) (opNew S cs).1 (.pointer (some ⟨w.heap.size, 0, none⟩)) := by
  obtain ⟨nH, nT⟩ := not_live_nx h
  have hH : ∀ id, id ≠ S.nx → (opNew S cs).2.H.get id = S.H.get id := fun id hid => by simp [opNew, newBlk, AL.get_set, Ne.symm hid]
  have hT : ∀ id, id ≠ S.nx → (opNew S cs).2.T.get id = S.T.get id := fun id hid => rfl
  have hc : ∀ id, id ≠ S.nx → cur (opNew S cs).2 id = cur S id := fun id hid => by unfold cur; rw [hH id hid, hT id hid]
  have hnew : (opNew S cs).2.H.get S.nx = some (.cells 0 cs) := by simp [opNew, newBlk, AL.get_set]
  have e := Ext.fresh (S' := (opNew S cs).2) h (.cells vs.toArray el) cs.length vs.length (fun _ => True) rfl hc hH
  refine ⟨cx.new S.nx w.heap.size cs.length vs.length (fun _ => True), SRel.fresh hR h _ cs.length vs.length _ rfl hH hT (fun b _ => nT) (fun g cs' hg => ?_) (fun es hg => ?_) (fun k x hg => ?_) (fun en hg => ?_), e, ?_⟩
  · rw [hnew] at hg
    obtain ⟨rfl, rfl⟩ : 0 = g ∧ cs = cs' := by simpa using hg
    refine ⟨fun c => by simp [Cx.new], fun o => by simp [Cx.new], vs.toArray, el, by simp only [Cx.new, if_true]; exact heap_alloc_new w _, by simp [hl, Cx.new], fun i x hx => ?_⟩
    have hi : i < vs.length := by rw [hl]; exact (List.getElem?_eq_some_iff.1 hx).1
    obtain ⟨a, b⟩ := hv i x vs[i] hx (List.getElem?_eq_getElem hi)
    exact ⟨vs[i], by simp [hi], a.mono e, b⟩
  · rw [hnew] at hg; cases hg
  · rw [hnew] at hg; cases hg
  · have : (opNew S cs).2.T.get S.nx = none := nT
    rw [this] at hg; cases hg
  · exact .ptr S.nx 0 0 w.heap.size ⟨by simp [opNew, newBlk], fun g' _ => Nat.zero_le _⟩ (fun _ => by simp [Cx.new])

/-- A new object. -/
theorem newobj_sound {R : ObjR} (hR : ObjOk R) {cx : Cx} {S : St} {w : World} (h : SRel R cx S w) (k : Nat) (x : D) (ob : Obj) (hg0 : genD x = 0) (hr : R.rel k x (w.alloc ob) w.heap.size (fun c => c = w.heap.size)) :
    ∃ cx', SRel R cx' (newBlk S (.obj k x)) (w.alloc ob) ∧ Ext cx S w cx' (newBlk S (.obj k x)) (w.alloc ob) ∧
      ARel cx' (newBlk S (.obj k x)) (w.alloc ob) (.ptr S.nx 0 0) (.pointer (some ⟨w.heap.size, 0, none⟩)) := by
  obtain ⟨nH, nT⟩ := not_live_nx h
  have hH : ∀ id, id ≠ S.nx → (newBlk S (.obj k x)).H.get id = S.H.get id := fun id hid => by simp [newBlk, AL.get_set, Ne.symm hid]
  have hT : ∀ id, id ≠ S.nx → (newBlk S (.obj k x)).T.get id = S.T.get id := fun id hid => rfl
  have hc : ∀ id, id ≠ S.nx → cur (newBlk S (.obj k x)) id = cur S id := fun id hid => by unfold cur; rw [hH id hid, hT id hid]
  have hnew : (newBlk S (.obj k x)).H.get S.nx = some (.obj k x) := by simp [newBlk, AL.get_set]
  have e := Ext.fresh (S' := newBlk S (.obj k x)) h ob 0 0 (fun _ => True) rfl hc hH
  refine ⟨cx.new S.nx w.heap.size 0 0 (fun _ => True), SRel.fresh hR h _ 0 0 _ rfl hH hT (fun b _ => nT) (fun g cs' hg => ?_) (fun es hg => ?_) (fun k' x' hg => ?_) (fun en hg => ?_), e, ?_⟩
  · rw [hnew] at hg; cases hg
  · rw [hnew] at hg; cases hg
  · rw [hnew] at hg; cases hg
    refine ⟨?_, fun b o hb => ?_⟩
    · have hf : (cx.new S.nx w.heap.size 0 0 (fun _ => True)).fp S.nx = fun c => c = w.heap.size := by funext c; simp [Cx.new]
      have hb : (cx.new S.nx w.heap.size 0 0 (fun _ => True)).bm S.nx = w.heap.size := by simp [Cx.new]
      rw [hf, hb]; exact hr
    · simp [Cx.new] at hb ⊢; exact .inl hb
  · have : (newBlk S (.obj k x)).T.get S.nx = none := nT
    rw [this] at hg; cases hg
  · exact .ptr S.nx 0 0 w.heap.size ⟨by simp [newBlk], fun g' _ => Nat.zero_le _⟩ (fun _ => by simp [Cx.new])

end Go.Ev

import Derived.Test.YticnenhajgogcaaDoorEvBld
namespace Go.Ev
open Go.Shelf Go.RowKit Go.Proofs
set_option linter.unusedVariables false
set_option linter.unusedSimpArgs false

/-- An object goes on in another state, or is put away. -/
theorem obj_sound {R : ObjR} (hR : ObjOk R) {cx cx' : Cx} {S S' : St} {w w' : World} (h : SRel R cx S w) {id k0 : Nat} {x0 : D} (hg : S.H.get id = some (.obj k0 x0))
    (hT : S'.T = S.T) (hnx : S'.nx = S.nx) (hH : ∀ i, i ≠ id → S'.H.get i = S.H.get i) (hHid : S'.H.get id = none ∨ ∃ k x, S'.H.get id = some (.obj k x) ∧ R.rel k x w' (cx'.bm id) (cx'.fp id))
    (hs : w.heap.size ≤ w'.heap.size) (h1 : w'.os = w.os) (h2 : w'.tape = w.tape) (h3 : w'.output = w.output)
    (hoth : ∀ b, b < w.heap.size → ¬ cx.fp id b → w'.heap[b]? = w.heap[b]?)
    (hbm : ∀ i, cx'.bm i = cx.bm i) (hfp : ∀ i, i ≠ id → ∀ b, (cx'.fp i b ↔ cx.fp i b)) (htsz : ∀ i, cx'.tsz i = cx.tsz i) (htot : ∀ i, cx'.tot i = cx.tot i)
    (hfpt : ∀ b, cx'.fp id b → cx.fp id b ∨ (w.heap.size ≤ b ∧ b < w'.heap.size)) (hfpf : ∀ b o, cx'.fp id b → cx'.fr b o)
    (hfr1 : ∀ b o, ¬ cx.fr b o → b < w.heap.size → ¬ cx'.fr b o) (hfr2 : ∀ b o, cx.fr b o → cx'.fr b o) (hfr3 : ∀ b o, cx'.fr b o → b < w'.heap.size) :
    SRel R cx' S' w' ∧ Ext cx S w cx' S' w' := by
  obtain ⟨t1, t2⟩ := h.objs id k0 x0 hg
  have hlive : live S id := by simp [live, cur, hg]
  have hcur : ∀ i, i ≠ id → cur S' i = cur S i := fun i hi => by
    unfold cur; rw [hH i hi, hT]
  have hcurt : ∀ g, cur S' id = some g → g = 0 := fun g hc => by
    unfold cur at hc
    rcases hHid with q | ⟨k, x, q, _⟩
    · rw [q, hT, h.dis id _ hg] at hc; cases hc
    · rw [q] at hc; simp at hc; exact hc.symm
  have hl' : ∀ i, live S' i → live S i := fun i hl => by
    by_cases hi : i = id
    · subst hi; exact hlive
    · unfold live at *; rwa [hcur i hi] at hl
  have e : Ext cx S w cx' S' w' := by
    refine ⟨hs, h1, h2, h3, by rw [hnx]; exact Nat.le_refl _, fun b o v hf hcl => ⟨?_, hfr1 b o hf (cell_lt hcl)⟩, fun b hb hn => ?_, fun i b hl hf => ?_, fun i gg hi hgg => ?_⟩
    · exact cell_old (hoth b (cell_lt hcl) (fun q => hf (t2 b o q))) hcl
    · exact ⟨hoth b hb (hn id hlive), fun o => ⟨fun q => Classical.byContradiction fun q' => hfr1 b o q' hb q, hfr2 b o⟩⟩
    · refine ⟨fun _ => ⟨hl' i hl, ?_⟩, fun hge => absurd (h.wf i (hl' i hl)) (by show ¬ i < S.nx; omega)⟩
      by_cases hi : i = id
      · subst hi
        rcases hfpt b hf with q | q
        · exact .inl q
        · exact .inr q.1
      · exact .inl ((hfp i hi b).1 hf)
    · by_cases hi' : i = id
      · subst hi'
        have := hcurt gg hgg
        subst this
        exact ⟨0, by simp [cur, hg], Nat.le_refl _, fun _ => ⟨hbm i, htsz i, htot i⟩⟩
      · rw [hcur i hi'] at hgg
        exact ⟨gg, hgg, Nat.le_refl _, fun _ => ⟨hbm i, htsz i, htot i⟩⟩
  have hne : ∀ i, live S i → i ≠ id → ∀ b, cx.fp i b → ¬ cx.fp id b := fun i hi hne b hf hq => hne (h.sep i id b hi hlive hf hq)
  refine ⟨⟨fun i hi => by rw [hnx]; exact h.wf i (hl' i hi), fun i b hi => ?_, fun i gg cs2 hi => ?_, fun i es hi => ?_, fun i k x hi => ?_, fun i n hi => ?_, fun i i' b a1 a2 f1 f2 => ?_, hfr3, hR.stat _ _ _ _ h.stat e.prot⟩, e⟩
  · rw [hT]
    by_cases q : i = id
    · subst q; exact h.dis i _ hg
    · rw [hH i q] at hi; exact h.dis i b hi
  · by_cases q : i = id
    · subst q
      rcases hHid with z | ⟨k, x, z, _⟩
      · rw [z] at hi; cases hi
      · rw [z] at hi; cases hi
    · rw [hH i q] at hi
      obtain ⟨d1, d2, arr2, el2, d3, d4, d5⟩ := h.cells i gg cs2 hi
      have hb := hne i (by simp [live, cur, hi]) q _ ((d1 _).2 rfl)
      refine ⟨fun b => by rw [hfp i q, hbm i]; exact d1 b, fun o => by rw [hbm i]; exact hfr2 _ _ (d2 o), arr2, el2, ?_, by rw [htsz i, htot i]; exact d4, fun j x hx => by
        obtain ⟨v, v1, v2, v3⟩ := d5 j x hx
        exact ⟨v, v1, v2.mono e, v3⟩⟩
      rw [hbm i, hoth _ (h.lt _ 0 (d2 0)) hb]; exact d3
  · by_cases q : i = id
    · subst q
      rcases hHid with z | ⟨k, x, z, _⟩
      · rw [z] at hi; cases hi
      · rw [z] at hi; cases hi
    · rw [hH i q] at hi
      obtain ⟨d1, d2, ms, clk, d3, d4, d5⟩ := h.maps i es hi
      have hb := hne i (by simp [live, cur, hi]) q _ ((d1 _).2 rfl)
      refine ⟨fun b => by rw [hfp i q, hbm i]; exact d1 b, fun o => by rw [hbm i]; exact hfr2 _ _ (d2 o), ms, clk, ?_, d4, fun j p m hp hm => by
        obtain ⟨v1, v2⟩ := d5 j p m hp hm
        exact ⟨v1.mono e.prot, v2.mono e⟩⟩
      rw [hbm i, hoth _ (h.lt _ 0 (d2 0)) hb]; exact d3
  · by_cases q : i = id
    · subst q
      rcases hHid with z | ⟨k', x', z, hr⟩
      · rw [z] at hi; cases hi
      · rw [z] at hi; cases hi
        exact ⟨hr, hfpf⟩
    · rw [hH i q] at hi
      obtain ⟨d1, d2⟩ := h.objs i k x hi
      have hf : cx'.fp i = cx.fp i := funext fun b => propext (hfp i q b)
      rw [hbm i, hf]
      have hb := hne i (by simp [live, cur, hi]) q
      exact ⟨hR.frame k x w w' _ _ d1 (fun c hc => hoth c ((hR.lt k x w _ _ d1).1 c hc) (hb c hc)), fun b o hbf => hfr2 b o (d2 b o hbf)⟩
  · rw [hT] at hi
    have q : i ≠ id := fun q => by subst q; have := h.dis i _ hg; rw [this] at hi; cases hi
    obtain ⟨hci, hHi⟩ := cur_T h hi
    obtain ⟨d1, d2, arr2, el2, fz, d3, d4, d5, d6⟩ := h.toks i n hi
    have hb := hne i (by simp [live, hci]) q _ ((d1 _).2 rfl)
    have hlt : cx.bm i < w.heap.size := h.lt _ _ (d2 _ (Nat.le_refl _))
    refine ⟨fun b => by rw [hfp i q, hbm i]; exact d1 b, fun o ho => ?_, arr2, el2, fz, ?_, ?_, ?_, ?_⟩
    · rw [htsz i] at ho; rw [hbm i]; exact hfr2 _ _ (d2 o ho)
    · rw [hbm i, hoth _ hlt hb]; exact d3
    · rw [htsz i, htot i]; exact d4
    · rw [htot i]; exact d5
    · rw [htsz i]; exact d6
  · by_cases q : i = id <;> by_cases q' : i' = id
    · omega
    · exfalso
      subst q
      have f2' := (hfp i' q' b).1 f2
      rcases hfpt b f1 with z | z
      · exact hne i' (hl' i' a2) q' b f2' z
      · have := h.fp_lt hR (hl' i' a2) f2'; omega
    · exfalso
      subst q'
      have f1' := (hfp i q b).1 f1
      rcases hfpt b f2 with z | z
      · exact hne i (hl' i a1) q b f1' z
      · have := h.fp_lt hR (hl' i a1) f1'; omega
    · exact h.sep i i' b (hl' i a1) (hl' i' a2) ((hfp i q b).1 f1) ((hfp i' q' b).1 f2)

/-- A strings.Builder and what it holds. -/
def bldRel (T e : Nat) (k : Nat) (x : D) (w : World) (b : Nat) (F : Nat → Prop) : Prop :=
  k = 1 ∧ ∃ l p v, x = .str l ∧ BldAt T e b p v (Lib.byteCells l) w ∧ ∀ c, F c ↔ (c = b ∨ v.ownBlock = some c)

/-- Objects: builders alone. -/
def theR (T e : Nat) (G : World → (Nat → Nat → Prop) → Prop) : ObjR := { rel := bldRel T e, G := G }

/-- What is asked of a static fact. -/
def StatOk (G : World → (Nat → Nat → Prop) → Prop) : Prop :=
  ∀ (w w' : World) (fr fr' : Nat → Nat → Prop), G w fr → (∀ (b o : Nat) (v : Value), ¬ fr b o → w.cell? ⟨b, o, none⟩ = some v → w'.cell? ⟨b, o, none⟩ = some v ∧ ¬ fr' b o) → G w' fr'

theorem own_frame {e : Nat} {v : Value} {n : Nat} {xs : List Value} {w w' : World} (h : w.ownsRow 0 e 1 v n xs) (hk : ∀ c, v.ownBlock = some c → w'.heap[c]? = w.heap[c]?) : w'.ownsRow 0 e 1 v n xs := by
  refine ⟨h.1, ?_⟩
  rcases h.2 with q | ⟨g, cap, cur, rfl, q1, q2, q3⟩
  · exact .inl q
  · exact .inr ⟨g, cap, cur, rfl, q1, by rw [hk g rfl]; exact q2, q3⟩

theorem theR_ok {T e : Nat} {G : World → (Nat → Nat → Prop) → Prop} (hG : StatOk G) : ObjOk (theR T e G) where
  frame := fun k x w w' b F h hF => by
    obtain ⟨hk, l, p, v, hx, ⟨h1, h2, h3, h4⟩, hf⟩ := h
    exact ⟨hk, l, p, v, hx, ⟨h1, by rw [hF b ((hf b).2 (.inl rfl))]; exact h2, own_frame h3 (fun c hc => hF c ((hf c).2 (.inr hc))), h4⟩, hf⟩
  lt := fun k x w b F h => by
    obtain ⟨hk, l, p, v, hx, ⟨h1, h2, h3, h4⟩, hf⟩ := h
    refine ⟨fun c hc => ?_, (hf b).2 (.inl rfl)⟩
    rcases (hf c).1 hc with rfl | hc
    · rcases Nat.lt_or_ge c w.heap.size with q | q
      · exact q
      · rw [Array.getElem?_eq_none q] at h2; cases h2
    · exact (h3.lt c hc).2
  stat := hG

/-- A write onto a builder. -/
theorem bld_write {T e : Nat} {G : World → (Nat → Nat → Prop) → Prop} (hG : StatOk G) {cx : Cx} {S : St} {w w' : World} (hS : SRel (theR T e G) cx S w) {id : Nat} {l l' : List UInt8} (hk : S.H.get id = some (.obj 1 (.str l)))
    {v : Value} (hfv : ∀ c, cx.fp id c ↔ (c = cx.bm id ∨ v.ownBlock = some c)) (hp : BldPost w w' (cx.bm id) v (Lib.byteCells l') T e) :
    ∃ cx', SRel (theR T e G) cx' { S with H := S.H.set id (.obj 1 (.str l')) } w' ∧ Ext cx S w cx' { S with H := S.H.set id (.obj 1 (.str l')) } w' := by
  obtain ⟨⟨p1, p2, p3, p4⟩, v', b1, b2, b3, b4, b5⟩ := hp
  obtain ⟨o1, o2⟩ := hS.objs id _ _ hk
  let cx' : Cx := { cx with fp := fun i c => if i = id then (c = cx.bm id ∨ v'.ownBlock = some c) else cx.fp i c, fr := fun b o => (b = cx.bm id ∨ v'.ownBlock = some b) ∨ cx.fr b o }
  have hlt : ∀ c, (c = cx.bm id ∨ v'.ownBlock = some c) → c < w'.heap.size := fun c hc => by
    rcases hc with rfl | hc
    · rcases Nat.lt_or_ge (cx.bm id) w'.heap.size with q | q
      · exact q
      · rw [Array.getElem?_eq_none q] at b1; cases b1
    · exact (b2.lt c hc).2
  have hold : ∀ c, (c = cx.bm id ∨ v'.ownBlock = some c) → cx.fp id c ∨ w.heap.size ≤ c := fun c hc => by
    rcases hc with rfl | hc
    · exact .inl ((hfv _).2 (.inl rfl))
    · rcases b5 c hc with q | q
      · exact .inl ((hfv _).2 (.inr q))
      · exact .inr q
  refine ⟨cx', obj_sound (theR_ok hG) hS hk rfl rfl (fun i hi => by simp [AL.get_set, Ne.symm hi]) (.inr ⟨1, .str l', by simp [AL.get_set], rfl, l', .pointer (some ⟨cx.bm id, 0, none⟩), v', rfl, ⟨.inr rfl, b1, b2, b3⟩, fun c => by simp [cx']⟩)
    p4 p1 p2 p3 (fun b hb hn => b4 b hb (fun q => hn ((hfv b).2 (.inl q))) (fun q => hn ((hfv b).2 (.inr q.symm)))) (fun _ => rfl) (fun i hi b => by simp [cx', hi]) (fun _ => rfl) (fun _ => rfl)
    (fun b hb => ?_) (fun b o hb => ?_) (fun b o hf hb q => ?_) (fun b o hf => .inr hf) (fun b o hf => ?_)⟩
  · simp only [cx', if_true] at hb
    rcases hold b hb with q | q
    · exact .inl q
    · exact .inr ⟨q, hlt b hb⟩
  · simp only [cx', if_true] at hb
    exact .inl hb
  · rcases q with q | q
    · rcases hold b q with z | z
      · exact hf (o2 b o z)
      · omega
    · exact hf q
  · rcases hf with q | q
    · exact hlt b q
    · exact Nat.lt_of_lt_of_le (hS.lt b o q) p4

/-- A builder is put away. -/
theorem bld_away {T e : Nat} {G : World → (Nat → Nat → Prop) → Prop} (hG : StatOk G) {cx : Cx} {S : St} {w w' : World} (hS : SRel (theR T e G) cx S w) {id : Nat} {l : List UInt8} (hk : S.H.get id = some (.obj 1 (.str l)))
    {v : Value} (hfv : ∀ c, cx.fp id c ↔ (c = cx.bm id ∨ v.ownBlock = some c)) (hp : Kept w w' (cx.bm id) v) :
    SRel (theR T e G) cx { S with H := S.H.del id } w' ∧ Ext cx S w cx { S with H := S.H.del id } w' := by
  obtain ⟨p1, p2, p3, p4, p5⟩ := hp
  obtain ⟨o1, o2⟩ := hS.objs id _ _ hk
  exact obj_sound (theR_ok hG) hS hk rfl rfl (fun i hi => by simp [AL.get_del, Ne.symm hi]) (.inl (by simp [AL.get_del]))
    p4 p1 p2 p3 (fun b hb hn => p5 b hb (fun q => hn ((hfv b).2 (.inl q))) (fun q => hn ((hfv b).2 (.inr q.symm)))) (fun _ => rfl) (fun i hi b => Iff.rfl) (fun _ => rfl) (fun _ => rfl)
    (fun b hb => .inl hb) (fun b o hb => o2 b o hb) (fun b o hf hb q => hf q) (fun b o hf => hf) (fun b o hf => Nat.lt_of_lt_of_le (hS.lt b o hf) p4)

end Go.Ev

import Derived.Test.YtdelaagbhhnniaaGreatDoorEvLoad
namespace Go.Ev
set_option linter.unusedVariables false
set_option linter.unusedSimpArgs false

/-- A block of cells is written anew. -/
theorem write_sound {R : ObjR} (hR : ObjOk R) {cx : Cx} {S : St} {w w' : World} (h : SRel R cx S w) {id g : Nat} {cs cs' : List AV} (hg : S.H.get id = some (.cells g cs))
    (hs : w'.heap.size = w.heap.size) (ho : ∀ b, b ≠ cx.bm id → w'.heap[b]? = w.heap[b]?) (h1 : w'.os = w.os) (h2 : w'.tape = w.tape) (h3 : w'.output = w.output)
    {arr' : Array Value} {el : Nat} (hb : w'.heap[cx.bm id]? = some (.cells arr' el (0, 0))) (hl : cs'.length = cs.length) (hl2 : arr'.size = cx.tot id)
    (hv : ∀ (i : Nat) (x : AV), cs'[i]? = some x → ∃ v, arr'[i]? = some v ∧ ARel cx S w x v ∧ v.oneCell' = true) :
    SRel R cx { S with H := S.H.set id (.cells g cs') } w' ∧ Ext cx S w cx { S with H := S.H.set id (.cells g cs') } w' := by
  obtain ⟨c1, c2, arr, el0, c3, c4, c5⟩ := h.cells id g cs hg
  have hlive : live S id := by simp [live, cur, hg]
  have hcur : ∀ i, cur { S with H := S.H.set id (.cells g cs') } i = cur S i := fun i => by
    unfold cur
    simp only [AL.get_set]
    by_cases hi : id = i
    · subst hi; simp [hg]
    · simp [hi]
  have e : Ext cx S w cx { S with H := S.H.set id (.cells g cs') } w' := by
    refine ⟨by omega, h1, h2, h3, Nat.le_refl _, fun b o v hf hc => ?_, fun b hlt hn => ?_, fun i b hl hf => ?_, fun i gi _ hi => ⟨gi, by
      unfold isIt at *
      simp only [AL.get_set] at hi
      split at hi
      · cases hi
      · exact hi⟩, fun _ _ _ _ _ _ hf => hf, fun i g' hi hg' => ?_⟩
    · have hne : b ≠ cx.bm id := fun q => hf (by rw [q]; exact c2 o)
      exact ⟨cell_old (ho b hne) hc, hf⟩
    · have hne : b ≠ cx.bm id := fun q => notIt hg (by simp) (hn id hlive ((c1 b).2 q))
      exact ⟨ho b hne, fun _ => Iff.rfl⟩
    · have hl' : live S i := by unfold live at *; rwa [hcur i] at hl
      exact ⟨fun _ => ⟨hl', .inl hf⟩, fun hge => absurd (h.wf i hl') (by show ¬ i < S.nx; omega)⟩
    · rw [hcur i] at hg'
      exact ⟨g', hg', Nat.le_refl _, fun _ => ⟨rfl, rfl, rfl⟩⟩
  have hl' : ∀ i, live { S with H := S.H.set id (.cells g cs') } i → live S i := fun i hl => by unfold live at *; rwa [hcur i] at hl
  have hne : ∀ i, live S i → i ≠ id → ∀ b, cx.fp i b → b ≠ cx.bm id := fun i hi hne b hf hq => hne (h.sep i id b hi hlive hf ((c1 b).2 hq))
  refine ⟨⟨fun i hi => h.wf i (hl' i hi), fun i b hi => ?_, fun i g' cs1 hi => ?_, fun i es hi => ?_, fun i k x hi => ?_, fun i en hi => ?_, fun i i' b a1 a2 f1 f2 => h.sep i i' b (hl' i a1) (hl' i' a2) f1 f2, fun b o hf => by rw [hs]; exact h.lt b o hf, hR.stat _ _ _ _ h.stat e.prot⟩, e⟩
  · simp only [AL.get_set] at hi
    by_cases q : id = i
    · subst q; exact h.dis id _ hg
    · rw [if_neg q] at hi; exact h.dis i b hi
  · simp only [AL.get_set] at hi
    by_cases q : id = i
    · subst q
      simp only [if_true, Option.some.injEq, Blk.cells.injEq] at hi
      obtain ⟨_, rfl⟩ := hi
      exact ⟨c1, c2, arr', el, hb, ⟨hl2, by rw [hl]; exact c4.2.1, by rw [hl, hl2, ← c4.1]; exact c4.2.2⟩, fun i x hx => by
        obtain ⟨v, v1, v2, v3⟩ := hv i x hx
        exact ⟨v, v1, v2.mono e, v3⟩⟩
    · rw [if_neg q] at hi
      obtain ⟨d1, d2, arr2, el2, d3, d4, d5⟩ := h.cells i g' cs1 hi
      refine ⟨d1, d2, arr2, el2, ?_, d4, fun j x hx => by
        obtain ⟨v, v1, v2, v3⟩ := d5 j x hx
        exact ⟨v, v1, v2.mono e, v3⟩⟩
      rw [ho _ (hne i (by simp [live, cur, hi]) (Ne.symm q) _ ((d1 _).2 rfl))]; exact d3
  · simp only [AL.get_set] at hi
    by_cases q : id = i
    · subst q; simp at hi
    · rw [if_neg q] at hi
      obtain ⟨d1, d2, ms, clk, d3, d4, d5⟩ := h.maps i es hi
      refine ⟨d1, d2, ms, clk, ?_, d4, fun j p m hp hm => by
        obtain ⟨v1, v2⟩ := d5 j p m hp hm
        exact ⟨v1.mono e.prot, v2.mono e⟩⟩
      rw [ho _ (hne i (by simp [live, cur, hi]) (Ne.symm q) _ ((d1 _).2 rfl))]; exact d3
  · simp only [AL.get_set] at hi
    by_cases q : id = i
    · subst q; simp at hi
    · rw [if_neg q] at hi
      obtain ⟨d1, d2⟩ := h.objs i k x hi
      exact ⟨hR.frame k x w w' _ _ d1 (fun c hc => ho c (hne i (by simp [live, cur, hi]) (Ne.symm q) c hc)), d2⟩
  · obtain ⟨d1, d2, arr2, el2, fz, d3, d4, d5, d6⟩ := h.toks i en hi
    have q : i ≠ id := fun q => by subst q; have := h.dis i _ hg; rw [this] at hi; cases hi
    have hli : live S i := by
      unfold live cur
      cases hH : S.H.get i with
      | some b => have := h.dis i b hH; rw [this] at hi; cases hi
      | none => simp [hi]
    refine ⟨d1, d2, arr2, el2, fz, ?_, d4, d5, d6⟩
    rw [ho _ (hne i hli q _ ((d1 _).2 rfl))]; exact d3

theorem setAt_length {α : Type} (l : List α) : ∀ (vs : List α) (off : Nat), (setAt l off vs).length = l.length := by
  intro vs
  induction vs generalizing l with
  | nil => intro off; rfl
  | cons v vs ih => intro off; simp [setAt, ih]

theorem setAt_get {α : Type} : ∀ (vs : List α) (l : List α) (off i : Nat), off + vs.length ≤ l.length →
    (setAt l off vs)[i]? = if off ≤ i ∧ i < off + vs.length then vs[i - off]? else l[i]? := by
  intro vs
  induction vs with
  | nil => intro l off i h; simp [setAt]; intro h1 h2; omega
  | cons v vs ih =>
    intro l off i h
    simp only [List.length_cons] at h
    rw [setAt, ih (l.set off v) (off + 1) i (by simp; omega)]
    by_cases h1 : i = off
    · subst h1
      rw [if_neg (by omega), if_pos (by simp), List.getElem?_set_self (by omega)]
      simp
    · by_cases h2 : off + 1 ≤ i ∧ i < off + 1 + vs.length
      · rw [if_pos h2, if_pos (by simp; omega)]
        rw [show i - off = (i - (off + 1)) + 1 by omega]
        simp
      · rw [if_neg h2, if_neg (by simp; omega), List.getElem?_set_ne (Ne.symm h1)]

/-- Cells stored one by one into one block. -/
theorem storeCells_at {P : Program} : ∀ (vs : List Value) (w : World) (b o i : Nat) (arr : Array Value) (el : Nat) (fz : Nat × Nat), w.heap[b]? = some (.cells arr el fz) →
    (∀ v ∈ vs, v.oneCell' = true) → o + i + vs.length ≤ arr.size → (fz.1 = fz.2 ∨ fz.2 ≤ o + i) →
    ∃ w', (storeCells ⟨b, o, none⟩ vs i).run P w = .ok () w' ∧ w'.heap.size = w.heap.size ∧ (∀ c, c ≠ b → w'.heap[c]? = w.heap[c]?) ∧ w'.os = w.os ∧ w'.tape = w.tape ∧ w'.output = w.output ∧ w'.drawn = w.drawn ∧
      w'.heap[b]? = some (.cells (setAt arr.toList (o + i) vs).toArray el fz)
  | [], w, b, o, i, arr, el, fz, hb, _, _, _ => ⟨w, rfl, rfl, fun _ _ => rfl, rfl, rfl, rfl, rfl, by simpa [setAt] using hb⟩
  | v :: vs, w, b, o, i, arr, el, fz, hb, ho, hle, hfz => by
    simp only [List.length_cons] at hle
    have hv : v.oneCell' = true := ho v (by simp)
    have hcell : w.cell? ⟨b, o + i, none⟩ = some arr[o + i] := by rw [cell_of hb]; simp [show o + i < arr.size by omega]
    have hfrz : w.frozen? ⟨b, o + i, none⟩ = false := by
      simp only [World.frozen?, hb]
      rcases hfz with q | q
      · simp; intro h1; omega
      · simp; intro h1; omega
    have hset : (w.setCell ⟨b, o + i, none⟩ v).heap[b]? = some (.cells (arr.setIfInBounds (o + i) v) el fz) := by
      simp only [World.setCell, Array.getElem?_modify, if_true, hb, Option.map_some]
      simp
    obtain ⟨w', r1, r2, r3, r4, r5, r6, r7, r8⟩ := storeCells_at (P := P) vs (w.setCell ⟨b, o + i, none⟩ v) b o (i + 1) (arr.setIfInBounds (o + i) v) el fz hset (fun u hu => ho u (by simp [hu])) (by simp; omega) (by rcases hfz with q | q <;> first | exact .inl q | (right; omega))
    refine ⟨w', ?_, ?_, fun c hc => ?_, by rw [r4]; rfl, by rw [r5]; rfl, by rw [r6]; rfl, by rw [r7]; rfl, ?_⟩
    · rw [storeCells, Sem.run_bind, add_at, run_store P w _ v _ hv, hcell]
      simp only [hfrz, Bool.false_eq_true, if_false, Result.andThen_ok]
      exact r1
    · rw [r2]; simp [World.setCell]
    · rw [r3 c hc]
      simp only [World.setCell, Array.getElem?_modify]
      rw [if_neg (by simpa using Ne.symm hc)]
    · rw [r8]
      congr 2
      rw [setAt]
      simp [Nat.add_assoc]

theorem store_sound {R : ObjR} (hR : ObjOk R) {C : Cfg} {cx : Cx} {S S' : St} {w : World} (h : SRel R cx S w) {t : Nat} {x y : AV} {v u : Value}
    (hl : opStore C t S x y = some S') (hx : ARel cx S w x v) (hy : ARel cx S w y u) :
    ∃ w', (Instr.storeAt t v u).run C.P w = .ok () w' ∧ SRel R cx S' w' ∧ Ext cx S w cx S' w' := by
  unfold opStore at hl
  cases x <;> simp only at hl <;> try (cases hl; done)
  case ptr id g off =>
    split at hl
    · rename_i hsz
      obtain ⟨hsz, hpl, hag⟩ := hsz
      have hnt : (∀ l, y ≠ .tup l) ∧ y ≠ .any := ⟨fun l q => (by subst q; simp [AV.plain] at hpl), fun q => by subst q; simp [AV.plain] at hpl⟩
      obtain ⟨ag, hag⟩ := Option.isSome_iff_exists.1 hag
      cases hk : S.H.get id with
      | none => rw [hk] at hl; cases hl
      | some blk =>
        rw [hk] at hl
        cases blk <;> simp only at hl <;> try (cases hl; done)
        rename_i g' cs
        split at hl
        · rename_i hg
          subst hg
          split at hl
          · rename_i hle
            simp only [Option.some.injEq] at hl
            subst hl
            cases hx with
            | ptr _ _ _ b hn hp =>
              have hb := hp (by simp [cur, hk])
              subst hb
              obtain ⟨c1, c2, arr, el, c3, c4, c5⟩ := h.cells id g' cs hk
              obtain ⟨k1, k2, k3⟩ := hy.cells hnt.1 hnt.2
              obtain ⟨w', r1, r2, r3, r4, r5, r6, r7, r8⟩ := storeCells_at (P := C.P) u.cells.toList w (cx.bm id) off 0 arr el (0, 0) c3 k2 (by have := c4.2.2; omega) (.inl rfl)
              obtain ⟨d, hd⟩ := aggO_under hag
              have hw := write_sound hR (w' := w') (cs' := setAt cs off y.cells) (arr' := (setAt arr.toList (off + 0) u.cells.toList).toArray) (el := el) h hk r2 r3 r4 r5 r6 r8 (by simp [setAt_length]) (by simp [setAt_length]; exact c4.1) (fun i x hx => by
                rw [setAt_get _ _ _ _ (by omega)] at hx
                simp only [List.getElem?_toArray, Nat.add_zero]
                rw [setAt_get _ _ _ _ (by have := c4.2.2; simp; simp at k1; omega)]
                by_cases hi : off ≤ i ∧ i < off + y.cells.length
                · rw [if_pos hi] at hx
                  rw [if_pos (by rw [k1]; exact hi)]
                  have hlt : i - off < u.cells.toList.length := by rw [k1]; omega
                  have hu := List.getElem?_eq_getElem hlt
                  exact ⟨_, hu, k3 (i - off) x _ hx hu, k2 _ (List.getElem_mem hlt)⟩
                · rw [if_neg hi] at hx
                  rw [if_neg (by rw [k1]; exact hi)]
                  obtain ⟨z, z1, z2, z3⟩ := c5 i x hx
                  exact ⟨z, by simpa using z1, z2, z3⟩)
              refine ⟨w', ?_, hw.1, hw.2⟩
              have hsz' : u.cells.size = szOf C.P t := by rw [← hsz, ← k1]; simp
              simp only [Instr.storeAt, Instr.sureAddr, Sem.run_bind, Sem.run_pure, Result.andThen_ok, storeVar, run_sizeOf' w hd, hsz', ne_eq, not_true_eq_false, if_false]
              exact r1
          · cases hl
        · cases hl
    · cases hl

end Go.Ev

import Derived.Test.YtdelaagbhhnniaaGreatDoorEvOp3
import Derived.Laws.Tables
namespace Go.Ev
set_option linter.unusedVariables false
set_option linter.unusedSimpArgs false

theorem foldl_setAt (off : Nat) : ∀ (vs : List Value) (k : Nat) (arr : Array Value), ((vs.zipIdx k).foldl (fun cs (c, j) => cs.setIfInBounds (off + j) c) arr).toList = setAt arr.toList (off + k) vs := by
  intro vs
  induction vs with
  | nil => intro k arr; rfl
  | cons v vs ih =>
    intro k arr
    simp only [List.zipIdx_cons, List.foldl_cons]
    rw [ih, setAt]
    simp [Nat.add_assoc]

/-- Two rows of cells that correspond. -/
def Pw {α : Type} (Rl : α → Value → Prop) (cs : List α) (vs : List Value) : Prop :=
  vs.length = cs.length ∧ (∀ v ∈ vs, v.oneCell' = true) ∧ ∀ (i : Nat) (x : α) (v : Value), cs[i]? = some x → vs[i]? = some v → Rl x v

theorem Pw.setAt {α : Type} {Rl : α → Value → Prop} {cs ds : List α} {vs us : List Value} (h : Pw Rl cs vs) (k : Pw Rl ds us) (off : Nat) (hle : off + ds.length ≤ cs.length) : Pw Rl (setAt cs off ds) (Ev.setAt vs off us) := by
  obtain ⟨h1, h2, h3⟩ := h
  obtain ⟨k1, k2, k3⟩ := k
  have hle' : off + us.length ≤ vs.length := by omega
  refine ⟨by simp [setAt_length, h1], fun v hv => ?_, fun i x v hx hv => ?_⟩
  · obtain ⟨i, hi⟩ := List.mem_iff_getElem?.1 hv
    rw [setAt_get _ _ _ _ hle'] at hi
    split at hi
    · exact k2 v (List.mem_of_getElem? hi)
    · exact h2 v (List.mem_of_getElem? hi)
  · rw [setAt_get _ _ _ _ hle] at hx
    rw [setAt_get _ _ _ _ hle', k1] at hv
    by_cases hc : off ≤ i ∧ i < off + ds.length
    · rw [if_pos hc] at hx hv; exact k3 _ x v hx hv
    · rw [if_neg hc] at hx hv; exact h3 i x v hx hv

theorem fill_sound {α : Type} {Rl : α → Value → Prop} {cellsOf : AV → Option (List α)} {pl : Nat → Option (Nat × Nat)} : ∀ (ps : List (Nat × AV)) (us : List (Nat × Value)) (cs cs' : List α) (arr : Array Value),
    fillD cellsOf pl cs ps = some cs' → us.length = ps.length →
    (∀ (i : Nat) (p : Nat × AV) (u : Nat × Value), ps[i]? = some p → us[i]? = some u → p.1 = u.1 ∧ ∀ ds, cellsOf p.2 = some ds → Pw Rl ds u.2.cells.toList) → Pw Rl cs arr.toList →
    ∃ arr', Instr.fill pl arr us = some arr' ∧ Pw Rl cs' arr'.toList := by
  intro ps
  induction ps with
  | nil =>
    intro us cs cs' arr h hl hr hp
    cases us with
    | nil => simp [fillD] at h; subst h; exact ⟨arr, rfl, hp⟩
    | cons => simp at hl
  | cons p ps ih =>
    intro us cs cs' arr h hl hr hp
    cases us with
    | nil => simp at hl
    | cons u us =>
      obtain ⟨i, v⟩ := p
      obtain ⟨i', x⟩ := u
      obtain ⟨e1, e2⟩ := hr 0 (i, v) (i', x) rfl rfl
      simp only at e1
      subst e1
      simp only [fillD] at h
      split at h
      · rename_i off size ds hpl hds
        split at h
        · rename_i hc
          have hq := e2 ds hds
          have hx : x.cells.size = ds.length := by rw [← hq.1]; simp
          have hs : arr.size = cs.length := by rw [← hp.1]; simp
          have hp' : Pw Rl (Ev.setAt cs off ds) (x.cells.zipIdx.foldl (fun cs (c, j) => cs.setIfInBounds (off + j) c) arr).toList := by
            rw [← Array.foldl_toList, Array.toList_zipIdx, foldl_setAt]
            exact hp.setAt hq off hc.2
          obtain ⟨arr', h1, h2⟩ := ih us _ cs' _ h (by simpa using hl) (fun j p u hj hu => hr (j + 1) p u (by simpa using hj) (by simpa using hu)) hp'
          refine ⟨arr', ?_, h2⟩
          simp only [Instr.fill, hpl]
          rw [if_neg (by simp; omega)]
          exact h1
        · cases h
      · cases h

theorem plainAV_cells {cx : Cx} {S : St} {w : World} {x : AV} {v : Value} (h : ARel cx S w x v) (hp : x.plain = true) : Pw (ARel cx S w) x.cells v.cells.toList := by
  have := h.cells (fun l q => by subst q; simp [AV.plain] at hp) (fun q => by subst q; simp [AV.plain] at hp)
  exact ⟨this.1, this.2.1, this.2.2⟩

theorem toD_both : (∀ (n : Nat) (x : AV) (y : D) (cx : Cx) (S : St) (w : World) (v : Value), SizeOf.sizeOf x ≤ n → toD x = some y → ARel cx S w x v → DRel w cx.fr y v) := by
  intro n
  induction n with
  | zero => intro x y cx S w v hs; cases x <;> simp at hs
  | succ n ih =>
    intro x y cx S w v hs h hx
    cases x with
    | d z => simp [toD] at h; subst h; exact hx.dd
    | tsl xs tok => simp [toD] at h; subst h; cases hx; assumption
    | agg l =>
      simp only [toD, Option.map_eq_some_iff] at h
      obtain ⟨ys, hy, rfl⟩ := h
      cases hx with
      | agg _ vs hl ho hr =>
        have key : ∀ (l : List AV) (ys : List D), toDs l = some ys → ys.length = l.length ∧ ∀ (i : Nat) (x : AV) (y : D), l[i]? = some x → ys[i]? = some y → toD x = some y := by
          intro l
          induction l with
          | nil => intro ys h; simp [toDs] at h; subst h; simp
          | cons a l ihl =>
            intro ys h
            simp only [toDs] at h
            split at h
            · rename_i b hb
              simp only [Option.map_eq_some_iff] at h
              obtain ⟨zs, h1, rfl⟩ := h
              obtain ⟨h2, h3⟩ := ihl zs h1
              refine ⟨by simp [h2], fun i x y hx hy => ?_⟩
              cases i with
              | zero => simp at hx hy; subst hx; subst hy; exact hb
              | succ i => simp at hx hy; exact h3 i x y hx hy
            · cases h
        obtain ⟨k1, k2⟩ := key l ys hy
        have hd : ∀ (i : Nat) (y : D) (v : Value), ys[i]? = some y → vs[i]? = some v → DRel w cx.fr y v := by
          intro i y v hy hv
          have hlt : i < l.length := by rw [← k1]; exact (List.getElem?_eq_some_iff.1 hy).1
          have hx := List.getElem?_eq_getElem hlt
          refine ih l[i] y cx S w v ?_ (k2 i _ y hx hy) (hr i _ v hx hv)
          have := List.sizeOf_lt_of_mem (List.getElem_mem hlt)
          simp at hs; omega
        refine ⟨.agg ys vs (by omega) ho (fun x hx => ?_) (fun i x v hx hv => ?_), rfl⟩
        · obtain ⟨i, hi⟩ := List.mem_iff_getElem?.1 hx
          have hlt : i < vs.length := by rw [hl, ← k1]; exact (List.getElem?_eq_some_iff.1 hi).1
          have := (hd i x _ hi (List.getElem?_eq_getElem hlt)).2
          rw [this]; exact one_agg (ho _ (List.getElem_mem hlt))
        · have := (hd i x v hx hv).1
          rwa [one_cells (ho v (List.mem_of_getElem? hv))] at this
    | _ => simp [toD] at h

theorem toD_sound {x : AV} {y : D} {cx : Cx} {S : St} {w : World} {v : Value} (h : toD x = some y) (hx : ARel cx S w x v) : DRel w cx.fr y v := toD_both _ x y cx S w v (Nat.le_refl _) h hx

theorem toDs_spec : ∀ {l : List AV} {ys : List D}, toDs l = some ys → ys.length = l.length ∧ ∀ (i : Nat) (x : AV) (y : D), l[i]? = some x → ys[i]? = some y → toD x = some y := by
  intro l
  induction l with
  | nil => intro ys h; simp [toDs] at h; subst h; simp
  | cons a l ihl =>
    intro ys h
    simp only [toDs] at h
    split at h
    · rename_i b hb
      simp only [Option.map_eq_some_iff] at h
      obtain ⟨zs, h1, rfl⟩ := h
      obtain ⟨h2, h3⟩ := ihl h1
      refine ⟨by simp [h2], fun i x y hx hy => ?_⟩
      cases i with
      | zero => simp at hx hy; subst hx; subst hy; exact hb
      | succ i => simp at hx hy; exact h3 i x y hx hy
    · cases h

theorem DRel.cellsPw {w : World} {fr : Nat → Nat → Prop} {x : D} {v : Value} (h : DRel w fr x v) : Pw (DRel w fr) x.cells v.cells.toList := by
  obtain ⟨h1, h2, h3⟩ := h.1.cells
  exact ⟨h1, h2, h3⟩

/-- The evaluation of a list of operands. -/
def ρRel (cx : Cx) (S : St) (w : World) (ρ : Operand → Option AV) (σ : Operand → Value) : Prop := ∀ x y, ρ x = some y → ARel cx S w y (σ x)

theorem evals_sound {cx : Cx} {S : St} {w : World} {ρ : Operand → Option AV} {σ : Operand → Value} (hρ : ρRel cx S w ρ σ) {parts : Array (Nat × Operand)} {ps : List (Nat × AV)} (h : evals ρ parts = some ps) :
    (parts.map fun (i, x) => (i, σ x)).toList.length = ps.length ∧ ∀ (i : Nat) (p : Nat × AV) (u : Nat × Value), ps[i]? = some p → (parts.map fun (i, x) => (i, σ x)).toList[i]? = some u → p.1 = u.1 ∧ ARel cx S w p.2 u.2 := by
  obtain ⟨h1, h2⟩ := mapO_spec h
  refine ⟨by simp [h1], fun i p u hp hu => ?_⟩
  simp only [Array.toList_map, List.getElem?_map, Option.map_eq_some_iff] at hu
  obtain ⟨q, hq, rfl⟩ := hu
  have := h2 i q p hq hp
  simp only [Option.map_eq_some_iff] at this
  obtain ⟨v, hv, rfl⟩ := this
  exact ⟨rfl, hρ _ _ hv⟩

theorem mapM_places {P : Program} (fs : List Field) (h : ∀ f ∈ fs, (P.underlying f.type).isSome = true) : fs.mapM (fun f => (P.info? f.type).map fun i => (f.offset, i.size)) = some (fs.map fun f => (f.offset, szOf P f.type)) := by
  induction fs with
  | nil => rfl
  | cons f fs ih =>
    obtain ⟨d, hd⟩ := Option.isSome_iff_exists.1 (h f (by simp))
    obtain ⟨i, hi⟩ := underlying_info hd
    simp [List.mapM_cons, hi, ih (fun g hg => h g (by simp [hg])), szOf]

theorem build_sound {C : Cfg} {cx : Cx} {S : St} {w : World} {ρ : Operand → Option AV} {σ : Operand → Value} (hρ : ρRel cx S w ρ σ) {t : Nat} {parts : Array (Nat × Operand)} {ps : List (Nat × AV)} {z : D} {pl : Nat → Option (Nat × Nat)} {cs : List AV}
    (hz : zeroOf C.P t = some z) (hps : evals ρ parts = some ps) (hpl : oper.P_place C t = some pl) (hf : fillD cellsP pl (AV.d z).cells ps = some cs) :
    ∃ u, (Instr.build t (parts.map fun (i, x) => (i, σ x))).run C.P w = .ok u w ∧ ARel cx S w (mkAgg cs) u := by
  obtain ⟨e1, e2⟩ := evals_sound hρ hps
  unfold zeroOf at hz
  split at hz
  · rename_i it hi
    simp only [Option.bind_eq_some_iff] at hz
    obtain ⟨zv, hz1, hz2⟩ := hz
    have hzr : ARel cx S w (.d z) zv := .d _ _ (ofConst_sound hz2 w cx.fr)
    obtain ⟨arr', f1, f2⟩ := fill_sound (Rl := ARel cx S w) ps (parts.map fun (i, x) => (i, σ x)).toList (AV.d z).cells cs zv.cells hf e1 (fun i p u hp hu => ⟨(e2 i p u hp hu).1, fun ds hds => by
      unfold cellsP at hds
      cases hpn : p.2.plain with
      | true => rw [hpn] at hds; simp at hds; subst hds; exact plainAV_cells (e2 i p u hp hu).2 hpn
      | false => rw [hpn] at hds; simp at hds⟩) (plainAV_cells hzr rfl)
    have hb : C.P.built t (parts.map fun (i, x) => (i, σ x)).toList = some arr' := by
      unfold Program.built
      unfold oper.P_place at hpl
      split at hpl
      · rename_i fs hu
        split at hpl
        · rename_i hall
          simp only [Option.some.injEq] at hpl
          subst hpl
          rw [hi, hu]
          simp only [hz1]
          rw [mapM_places fs.toList (fun f hf => by
            have := Array.all_eq_true_iff_forall_mem.1 hall f (by simpa using hf)
            exact this)]
          simp only
          rw [← f1]
          congr 1
          funext i
          simp
        · cases hpl
      · rename_i n e hu
        split at hpl
        · rename_i hd
          simp only [Option.some.injEq] at hpl
          subst hpl
          obtain ⟨d, hd⟩ := Option.isSome_iff_exists.1 hd
          obtain ⟨ie, hie⟩ := underlying_info hd
          rw [hi, hu]
          simp only [hz1, hie]
          rw [← f1]
          simp [szOf, hie]
        · cases hpl
      · cases hpl
    refine ⟨.agg arr', run_build w t _ arr' hb, ?_⟩
    have := ARel.mkAgg f2.1 f2.2.1 f2.2.2
    simpa using this
  · cases hz

end Go.Ev

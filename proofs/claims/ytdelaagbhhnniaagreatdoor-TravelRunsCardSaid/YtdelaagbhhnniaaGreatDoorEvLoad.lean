import Derived.Test.YtdelaagbhhnniaaGreatDoorEvMem
namespace Go.Ev
set_option linter.unusedVariables false
set_option linter.unusedSimpArgs false

theorem underlying_info {P : Program} {t : Nat} {d : TypeDesc} (h : P.underlying t = some d) : ∃ i, P.info? t = some i := by
  unfold Program.underlying at h
  split at h
  · rename_i n u q; exact ⟨_, by assumption⟩
  · exact ⟨_, by assumption⟩
  · cases h

theorem run_underlying' {P : Program} {t : Nat} {d : TypeDesc} (w : World) (h : P.underlying t = some d) : (underlying t).run P w = .ok d w := by
  simp [underlying, h]

theorem run_sizeOf' {P : Program} {t : Nat} {d : TypeDesc} (w : World) (h : P.underlying t = some d) : (sizeOf t).run P w = .ok (szOf P t) w := by
  obtain ⟨i, hi⟩ := underlying_info h
  simp [sizeOf, typeInfo, hi, szOf]

theorem run_isAgg' {P : Program} {t : Nat} {b : Bool} (w : World) (h : aggO P t = some b) : (isAgg t).run P w = .ok b w := by
  unfold aggO at h
  unfold isAgg
  split at h
  · rename_i hu; simp [run_underlying' w hu]; simpa using h
  · rename_i hu; simp [run_underlying' w hu]; simpa using h
  · rename_i d h1 h2 hu
    simp only [Option.some.injEq] at h
    subst h
    rw [Sem.run_bind, run_underlying' w hu]
    simp only [Result.andThen_ok]
    cases d <;> first | rfl | (exact absurd rfl (h1 _)) | (exact absurd rfl (h2 _ _))
  · cases h

theorem aggO_under {P : Program} {t : Nat} {b : Bool} (h : aggO P t = some b) : ∃ d, P.underlying t = some d := by
  unfold aggO at h
  split at h
  · exact ⟨_, by assumption⟩
  · exact ⟨_, by assumption⟩
  · exact ⟨_, by assumption⟩
  · cases h

theorem run_loadVar_agg {P : Program} {t : Nat} (w : World) (h : aggO P t = some true) (a : Addr) (vs : List Value) (hl : vs.length = szOf P t)
    (hc : ∀ j v, vs[j]? = some v → w.cell? (a.add j) = some v) : (loadVar t a).run P w = .ok (.agg vs.toArray) w := by
  obtain ⟨d, hd⟩ := aggO_under h
  have := run_loadCells_list (P := P) w a vs hc
  simp only [loadVar, Sem.run_bind, run_isAgg' w h, Result.andThen_ok, if_true, run_sizeOf' w hd, ← hl, this, Sem.run_pure]

theorem run_loadVar_one {P : Program} {t : Nat} (w : World) (h : aggO P t = some false) (a : Addr) (v : Value) (hc : w.cell? a = some v) : (loadVar t a).run P w = .ok v w := by
  simp [loadVar, run_isAgg' w h, hc]

theorem add_at (b o n : Nat) : (⟨b, o, none⟩ : Addr).add n = ⟨b, o + n, none⟩ := by
  unfold Addr.add
  split
  · rename_i h; simp [h]
  · rfl

theorem one_cells {v : Value} (h : v.oneCell' = true) : v.cells.toList = [v] := by
  cases v <;> simp_all [Value.oneCell', Value.cells]
theorem one_agg {v : Value} (h : v.oneCell' = true) : vAgg v = false := by
  cases v <;> simp_all [Value.oneCell', vAgg]

theorem CRel.one {w : World} {fr : Nat → Nat → Prop} {x : D} {v : Value} (h : CRel w fr x [v]) (hx : x.isAgg = false) : v.oneCell' = true := by
  cases h <;> first | rfl | (simp [D.isAgg] at hx)

theorem DRel.of_cell {w : World} {fr : Nat → Nat → Prop} {x : D} {v : Value} (h : CRel w fr x [v]) (hx : x.isAgg = false) : DRel w fr x v := by
  have := h.one hx
  exact ⟨by rw [one_cells this]; exact h, by rw [one_agg this]; exact hx⟩

theorem allD_some {l : List AV} {xs : List D} (h : allD l = some xs) : l = xs.map .d := by
  induction l generalizing xs with
  | nil => simp [allD] at h; subst h; rfl
  | cons x l ih =>
    cases x <;> simp [allD] at h
    obtain ⟨ys, hy, rfl⟩ := h
    simp [ih hy]

theorem ARel.mkAgg {cx : Cx} {S : St} {w : World} {l : List AV} {vs : List Value} (hl : vs.length = l.length) (ho : ∀ v ∈ vs, v.oneCell' = true)
    (h : ∀ (i : Nat) (x : AV) (v : Value), l[i]? = some x → vs[i]? = some v → ARel cx S w x v) : ARel cx S w (mkAgg l) (.agg vs.toArray) := by
  unfold Ev.mkAgg
  split
  · rename_i xs hx
    have hm := allD_some hx
    subst hm
    have key : ∀ (i : Nat) (x : D) (v : Value), xs[i]? = some x → vs[i]? = some v → DRel w cx.fr x v := by
      intro i x v hi hv
      have := h i (.d x) v (by simp [hi]) hv
      cases this with
      | d _ _ h => exact h
    refine .d _ _ ⟨.agg xs vs (by simpa using hl) ho (fun x hx => ?_) (fun i x v hi hv => ?_), rfl⟩
    · obtain ⟨i, hi⟩ := List.mem_iff_getElem?.1 hx
      have hlt : i < vs.length := by rw [hl]; simpa using (List.getElem?_eq_some_iff.1 hi).1
      have := (key i x vs[i] hi (List.getElem?_eq_getElem hlt)).2
      rw [this]; exact one_agg (ho _ (List.getElem_mem hlt))
    · have := (key i x v hi hv).1
      rwa [one_cells (ho v (List.mem_of_getElem? hv))] at this
  · exact .agg l vs hl ho h

/-- The cells of a value. -/
theorem ARel.cells {cx : Cx} {S : St} {w : World} {x : AV} {v : Value} (h : ARel cx S w x v) (ht : ∀ l, x ≠ .tup l) (hany : x ≠ .any) :
    v.cells.toList.length = x.cells.length ∧ (∀ u ∈ v.cells.toList, u.oneCell' = true) ∧
    ∀ (i : Nat) (y : AV) (u : Value), x.cells[i]? = some y → v.cells.toList[i]? = some u → ARel cx S w y u := by
  have one : ∀ {y : AV} {u : Value}, ARel cx S w y u → u.oneCell' = true → y.cells = [y] → u.cells.toList.length = y.cells.length ∧ (∀ z ∈ u.cells.toList, z.oneCell' = true) ∧
      ∀ (i : Nat) (z : AV) (t : Value), y.cells[i]? = some z → u.cells.toList[i]? = some t → ARel cx S w z t := by
    intro y u hy ho hc
    rw [one_cells ho, hc]
    refine ⟨rfl, by simp [ho], fun i z t hz ht => ?_⟩
    cases i <;> simp_all
  have h0 := h
  cases h with
  | d x v h =>
    obtain ⟨h1, h2⟩ := h
    by_cases hx : x.isAgg = true
    · cases x <;> simp [D.isAgg] at hx
      rename_i xs
      generalize hq : v.cells.toList = vs at h1
      cases h1 with
      | agg _ _ hl ho hn h =>
        simp only [AV.cells]
        refine ⟨by simp [hl], ho, fun i y u hy hu => ?_⟩
        simp only [List.getElem?_map, Option.map_eq_some_iff] at hy
        obtain ⟨z, hz, rfl⟩ := hy
        exact .d z u (DRel.of_cell (h i z u hz hu) (hn z (List.mem_of_getElem? hz)))
    · have hx' : x.isAgg = false := by simpa using hx
      have hva : vAgg v = false := by rw [← h2]; exact hx'
      have hc : v.cells.toList = [v] := by cases v <;> simp_all [vAgg, Value.cells]
      have hv : v.oneCell' = true := CRel.one (by rw [← hc]; exact h1) hx'
      refine one h0 hv ?_
      cases x <;> simp_all [AV.cells, D.isAgg]
  | tsl xs tok b off cap hn h hp => exact one h0 rfl rfl
  | ptr id g off b hn hp => exact one h0 rfl rfl
  | msl id g off len lim sz b cap hn hl hcap h63 hp => exact one h0 rfl rfl
  | eptr x off b o vs h hc => exact one h0 rfl rfl
  | map id b hn hp => exact one h0 rfl rfl
  | fn f cs vs hl h => exact one h0 rfl rfl
  | agg xs vs hl ho h => exact ⟨by simp [Value.cells, AV.cells, hl], by simpa [Value.cells] using ho, fun i y u hy hu => h i y u (by simpa [AV.cells] using hy) (by simpa [Value.cells] using hu)⟩
  | tup xs vs hl h => exact absurd rfl (ht xs)
  | any v => exact absurd rfl hany
  | it0 => exact one h0 rfl rfl
  | it => exact one h0 rfl rfl

/-- What a part of some cells is. -/
theorem part_sound {P : Program} {cx : Cx} {S : St} {w : World} {t : Nat} {cs : List AV} {off : Nat} {r : AV} (h : part P t cs off = some r) (b base : Nat)
    (hc : ∀ (i : Nat) (x : AV), cs[i]? = some x → ∃ v, w.cell? ⟨b, base + i, none⟩ = some v ∧ ARel cx S w x v ∧ v.oneCell' = true) :
    ∃ u, (loadVar t ⟨b, base + off, none⟩).run P w = .ok u w ∧ ARel cx S w r u := by
  unfold part at h
  split at h
  · rename_i ha
    split at h
    · rename_i hle
      simp only [Option.some.injEq] at h
      subst h
      have hex : ∀ j, j < szOf P t → ∃ v, w.cell? ⟨b, base + off + j, none⟩ = some v ∧ (∀ x, cs[off + j]? = some x → ARel cx S w x v) ∧ v.oneCell' = true := by
        intro j hj
        have hlt : off + j < cs.length := by omega
        obtain ⟨v, h1, h2, h3⟩ := hc (off + j) cs[off + j] (List.getElem?_eq_getElem hlt)
        refine ⟨v, by rw [Nat.add_assoc]; exact h1, fun x hx => ?_, h3⟩
        rw [List.getElem?_eq_getElem hlt] at hx
        cases hx; exact h2
      let f : Nat → Value := fun j => (w.cell? ⟨b, base + off + j, none⟩).getD undef
      have hf : ∀ j, j < szOf P t → w.cell? ⟨b, base + off + j, none⟩ = some (f j) := fun j hj => by
        obtain ⟨v, h1, _⟩ := hex j hj
        simp [f, h1]
      refine ⟨.agg ((List.range (szOf P t)).map f).toArray, run_loadVar_agg w ha _ _ (by simp) (fun j v hv => ?_), ARel.mkAgg (by simp; omega) (fun v hv => ?_) (fun i x v hx hv => ?_)⟩
      · simp only [List.getElem?_map, Option.map_eq_some_iff] at hv
        obtain ⟨k, hk, rfl⟩ := hv
        have hjk : j < szOf P t ∧ k = j := by
          have := List.getElem?_eq_some_iff.1 hk
          obtain ⟨q1, q2⟩ := this
          simp at q1 q2
          exact ⟨q1, q2.symm⟩
        rw [add_at, hjk.2]
        exact hf j hjk.1
      · simp only [List.mem_map, List.mem_range] at hv
        obtain ⟨j, hj, rfl⟩ := hv
        obtain ⟨v, h1, _, h3⟩ := hex j hj
        have := hf j hj
        rw [h1] at this
        cases this; exact h3
      · have hi : i < szOf P t := by
          have := (List.getElem?_eq_some_iff.1 hv).1
          simpa using this
        have hv' : v = f i := by
          simp [List.getElem?_map, List.getElem?_range hi] at hv
          exact hv.symm
        subst hv'
        obtain ⟨v, h1, h2, h3⟩ := hex i hi
        have h4 := hf i hi
        rw [h1] at h4
        cases h4
        refine h2 x ?_
        simp only [List.getElem?_take, List.getElem?_drop] at hx
        rw [if_pos hi] at hx
        exact hx
    · cases h
  · rename_i ha
    obtain ⟨v, h1, h2, h3⟩ := hc off r h
    exact ⟨v, run_loadVar_one w ha _ v h1, h2⟩
  · cases h

theorem partD_part {P : Program} {t : Nat} {cs : List D} {off : Nat} {r : D} (h : partD P t cs off = some r) : part P t (cs.map .d) off = some (.d r) := by
  unfold partD at h
  unfold part
  split at h
  · split at h
    · rename_i ha hle
      simp only [Option.some.injEq] at h
      subst h
      rw [if_pos (by simpa using hle)]
      have : ∀ l : List D, allD (l.map AV.d) = some l := by
        intro l; induction l with
        | nil => rfl
        | cons x l ih => simp [allD, ih]
      simp only [mkAgg, ← List.map_drop, ← List.map_take, this]
    · cases h
  · simp [h]
  · cases h

theorem CRel.cells {w : World} {fr : Nat → Nat → Prop} {x : D} {vs : List Value} (h : CRel w fr x vs) :
    vs.length = x.cells.length ∧ (∀ v ∈ vs, v.oneCell' = true) ∧ ∀ (i : Nat) (y : D) (v : Value), x.cells[i]? = some y → vs[i]? = some v → DRel w fr y v := by
  have one : ∀ {x : D} {v : Value}, CRel w fr x [v] → x.isAgg = false → x.cells = [x] → [v].length = x.cells.length ∧ (∀ u ∈ [v], u.oneCell' = true) ∧
      ∀ (i : Nat) (y : D) (u : Value), x.cells[i]? = some y → [v][i]? = some u → DRel w fr y u := by
    intro x v h hx hc
    rw [hc]
    refine ⟨rfl, by simpa using h.one hx, fun i y u hy hu => ?_⟩
    cases i <;> simp_all
    exact DRel.of_cell h hx
  have h0 := h
  cases h
  case agg xs hn hl ho h => exact ⟨hl, ho, fun i y v hy hv => DRel.of_cell (h i y v hy hv) (hn y (List.mem_of_getElem? hy))⟩
  all_goals exact one h0 rfl rfl

theorem look_sound {S : St} {id g : Nat} {cs : List AV} (h : S.look id g = some cs) : S.H.get id = some (.cells g cs) ∧ cur S id = some g := by
  unfold St.look at h
  split at h
  · rename_i g' cs' hg
    cases hb : Nat.beq g' g with
    | true =>
      rw [hb] at h
      have := Nat.eq_of_beq_eq_true hb
      subst this
      simp at h; subst h
      exact ⟨hg, by simp [cur, hg]⟩
    | false => rw [hb] at h; cases h
  · cases h

theorem run_loadAt {P : Program} {t b o : Nat} {w : World} : (Instr.loadAt t (.pointer (some ⟨b, o, none⟩))).run P w = (loadVar t ⟨b, o, none⟩).run P w := by
  simp [Instr.loadAt, Instr.sureAddr]

theorem load_sound {R : ObjR} {C : Cfg} {cx : Cx} {S : St} {w : World} (h : SRel R cx S w) {t : Nat} {x r : AV} {v : Value} (hl : opLoad C t S x = some r) (hx : ARel cx S w x v) :
    ∃ u, (Instr.loadAt t v).run C.P w = .ok u w ∧ ARel cx S w r u := by
  unfold opLoad at hl
  cases x <;> simp only at hl <;> try (cases hl; done)
  case ptr id g off =>
    cases hk : S.look id g with
    | none => rw [hk] at hl; cases hl
    | some cs =>
      rw [hk] at hl
      obtain ⟨h1, h2⟩ := look_sound hk
      cases hx with
      | ptr _ _ _ b hn hp =>
        have hb := hp h2
        subst hb
        obtain ⟨_, _, arr, el, a1, a2, a3⟩ := h.cells id g cs h1
        rw [run_loadAt]
        have := part_sound (w := w) (cx := cx) (S := S) hl (cx.bm id) 0 (fun i x hx => by
          obtain ⟨u, u1, u2, u3⟩ := a3 i x hx
          exact ⟨u, by rw [cell_of a1, Nat.zero_add]; exact u1, u2, u3⟩)
        simpa using this
  case eptr y off =>
    cases hx with
    | eptr _ _ b o vs hc hm =>
      simp only [Option.map_eq_some_iff] at hl
      obtain ⟨z, hz, rfl⟩ := hl
      rw [run_loadAt]
      obtain ⟨c1, c2, c3⟩ := hc.cells
      refine part_sound (partD_part hz) b o (fun i x hx => ?_)
      simp only [List.getElem?_map, Option.map_eq_some_iff] at hx
      obtain ⟨q, hq, rfl⟩ := hx
      have hi : i < vs.length := by rw [c1]; exact (List.getElem?_eq_some_iff.1 hq).1
      have hv := List.getElem?_eq_getElem hi
      exact ⟨vs[i], (hm i _ hv).1, .d q _ (c3 i q _ hq hv), c2 _ (List.getElem_mem hi)⟩

end Go.Ev

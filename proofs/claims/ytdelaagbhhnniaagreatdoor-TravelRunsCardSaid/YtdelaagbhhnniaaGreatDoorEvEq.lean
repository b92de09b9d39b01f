import Derived.Test.YtdelaagbhhnniaaGreatDoorEvPure
import Derived.Laws.StructEq
import Derived.Laws.BytesString
namespace Go.Ev
set_option linter.unusedVariables false
set_option linter.unusedSimpArgs false

/-- A part of a struct's value. -/
theorem partV_sound {P : Program} {cx : Cx} {S : St} {w : World} {t : Nat} {cs : List AV} {off : Nat} {r : AV} (h : Ev.part P t cs off = some r) (vs : List Value) (hl : vs.length = cs.length)
    (ho : ∀ v ∈ vs, v.oneCell' = true) (hc : ∀ (i : Nat) (x : AV) (v : Value), cs[i]? = some x → vs[i]? = some v → ARel cx S w x v) :
    ∃ u, (Go.part t vs.toArray off).run P w = .ok u w ∧ ARel cx S w r u := by
  unfold Ev.part at h
  split at h
  · rename_i ha
    split at h
    · rename_i hle
      simp only [Option.some.injEq] at h
      subst h
      obtain ⟨d, hd⟩ := aggO_under ha
      refine ⟨.agg ((vs.drop off).take (szOf P t)).toArray, ?_, ARel.mkAgg (by simp; omega) (fun v hv => ho v (List.mem_of_mem_drop (List.mem_of_mem_take hv))) (fun i x v hx hv => ?_)⟩
      · simp only [Go.part, Sem.run_bind, run_isAgg' w ha, Result.andThen_ok, if_true, run_sizeOf' w hd, Sem.run_pure]
        congr 2
        simp [List.extract_toArray, List.extract_eq_take_drop]
      · by_cases hi : i < szOf P t
        · simp only [List.getElem?_take, List.getElem?_drop] at hx hv
          rw [if_pos hi] at hx hv
          exact hc _ x v hx hv
        · simp only [List.getElem?_take] at hx
          rw [if_neg hi] at hx; cases hx
    · cases h
  · rename_i ha
    have hlt : off < vs.length := by rw [hl]; exact (List.getElem?_eq_some_iff.1 h).1
    refine ⟨vs[off], ?_, hc off r _ h (List.getElem?_eq_getElem hlt)⟩
    simp [Go.part, run_isAgg' w ha, hlt]
  · cases h

theorem DRel.aggI {w : World} {fr : Nat → Nat → Prop} {xs : List D} {v : Value} (h : DRel w fr (.agg xs) v) :
    ∃ vs, v = .agg ⟨vs⟩ ∧ vs.length = xs.length ∧ (∀ u ∈ vs, u.oneCell' = true) ∧ ∀ (i : Nat) (x : D) (u : Value), xs[i]? = some x → vs[i]? = some u → DRel w fr x u := by
  obtain ⟨h1, h2⟩ := h
  cases v <;> simp [D.isAgg, vAgg] at h2
  rename_i arr
  obtain ⟨vs⟩ := arr
  obtain ⟨c1, c2, c3⟩ := h1.cells
  exact ⟨vs, rfl, c1, c2, c3⟩

/-- The same for data. -/
theorem partD_sound {P : Program} {fr : Nat → Nat → Prop} {w : World} {t : Nat} {cs : List D} {off : Nat} {r : D} (h : partD P t cs off = some r) (vs : List Value) (hl : vs.length = cs.length)
    (ho : ∀ v ∈ vs, v.oneCell' = true) (hc : ∀ (i : Nat) (x : D) (v : Value), cs[i]? = some x → vs[i]? = some v → DRel w fr x v) :
    ∃ u, (Go.part t vs.toArray off).run P w = .ok u w ∧ DRel w fr r u := by
  have := partV_sound (cx := ⟨fun _ => 0, fun _ _ => False, fun _ => 0, fun _ => 0, fr⟩) (S := pureSt) (w := w) (partD_part h) vs (by simp [hl]) ho (fun i x v hx hv => by
    simp only [List.getElem?_map, Option.map_eq_some_iff] at hx
    obtain ⟨y, hy, rfl⟩ := hx
    exact .d y v (hc i y v hy hv))
  obtain ⟨u, h1, h2⟩ := this
  exact ⟨u, h1, h2.dd⟩

theorem run_und {P : Program} {t : Nat} {d : TypeDesc} (w : World) (h : P.underlying t = some d) : (underlying t).run P w = .ok d w := by simp [underlying, h]

theorem bytes_eq (a b : ByteArray) : (a == b) = (a.data.toList == b.data.toList) := by
  rw [beq_toListBytes, toList_data, toList_data]

theorem eqvT_sound {P : Program} {fr : Nat → Nat → Prop} {w : World} : ∀ (n t : Nat) (x y : D) (b : Bool) (vx vy : Value), eqvT P n t x y = some b → DRel w fr x vx → DRel w fr y vy →
    ∀ d, n ≤ d → (Op.equalIn d t vx vy).run P w = .ok b w := by
  intro n
  induction n with
  | zero => intro t x y b vx vy h; simp [eqvT] at h
  | succ n ih =>
    intro t x y b vx vy h hx hy d hd
    obtain ⟨d, rfl⟩ : ∃ m, d = m + 1 := ⟨d - 1, by omega⟩
    have hd' : n ≤ d := by omega
    unfold eqvT at h
    split at h
    · rename_i a c hu
      have h1 := hx.val rfl; have h2 := hy.val rfl
      cases h1; cases h2
      simp only [Option.some.injEq] at h; subst h
      exact run_equalIn_bool' w d t _ _ hu
    · rename_i k0 k a k' c hu
      have h1 := hx.val rfl; have h2 := hy.val rfl
      cases h1; cases h2
      split at h
      · rename_i hk
        subst hk
        simp only [Option.some.injEq] at h; subst h
        exact run_equalIn_int w d t k k0 a c hu
      · cases h
    · rename_i a c hu
      have h1 := hx.val rfl; have h2 := hy.val rfl
      cases h1; cases h2
      simp only [Option.some.injEq] at h; subst h
      rw [run_equalIn_string w d t _ _ hu, toList_data, toList_data]
    · rename_i e hu
      have h1 := hx.val rfl; have h2 := hy.val rfl
      cases h1; cases h2
      simp only [Option.some.injEq] at h; subst h
      simp [Op.equalIn, run_und w hu]
    · rename_i e1 e2 hu
      have h1 := hx.val rfl; have h2 := hy.val rfl
      cases h1; cases h2
      simp only [Option.some.injEq] at h; subst h
      simp [Op.equalIn, run_und w hu]
    · rename_i e1 e2 e3 hu
      have h1 := hx.val rfl; have h2 := hy.val rfl
      cases h1; cases h2
      simp only [Option.some.injEq] at h; subst h
      simp [Op.equalIn, run_und w hu]
    · rename_i e1 hu
      have h1 := hx.val rfl; have h2 := hy.val rfl
      cases h1; cases h2
      simp only [Option.some.injEq] at h; subst h
      simp [Op.equalIn, run_und w hu]
    · rename_i e1 y1 ys1 ti hu
      have h1 := hx.val rfl; have h2 := hy.val rfl
      cases h1; cases h2
      simp only [Option.some.injEq] at h; subst h
      simp [Op.equalIn, run_und w hu]
    · rename_i e1 y1 ys1 ti hu
      have h1 := hx.val rfl; have h2 := hy.val rfl
      cases h1; cases h2
      simp only [Option.some.injEq] at h; subst h
      simp [Op.equalIn, run_und w hu]
    · rename_i ms t2 y2 hu
      have h1 := hx.val rfl; have h2 := hy.val rfl
      cases h1; cases h2
      simp only [Option.some.injEq] at h; subst h
      simp [Op.equalIn, run_und w hu]
    · rename_i ms t2 y2 hu
      have h1 := hx.val rfl; have h2 := hy.val rfl
      cases h1; cases h2
      simp only [Option.some.injEq] at h; subst h
      simp [Op.equalIn, run_und w hu]
    · rename_i ms tx vx' ty vy' hu
      have h1 := hx.val rfl; have h2 := hy.val rfl
      cases h1 with
      | iface _ _ v1 s1 c1 =>
      cases h2 with
      | iface _ _ v2 s2 c2 =>
      split at h
      · rename_i ht
        subst ht
        split at h
        · rename_i i hi
          split at h
          · rename_i hcomp
            have := ih tx vx' vy' b v1 v2 h ⟨c1, s1⟩ ⟨c2, s2⟩ d hd'
            simp [Op.equalIn, run_und w hu, typeInfo, hi, hcomp, this]
          · cases h
        · cases h
      · rename_i ht
        simp only [Option.some.injEq] at h; subst h
        simp [Op.equalIn, run_und w hu, ht]
    · rename_i fs xs ys hu
      split at h
      · cases h
      · rename_i hst
        obtain ⟨vs, rfl, l1, o1, c1⟩ := hx.aggI
        obtain ⟨us, rfl, l2, o2, c2⟩ := hy.aggI
        have hf : P.fieldsOf t = fs := by simp [Program.fieldsOf, hu]
        rw [run_equalIn_struct w d t _ _ (by rw [hf]; exact hu) (by simpa using hst), hf]
        generalize fs.toList = l at h
        clear hf hu hx hy
        induction l with
        | nil => simp at h; subst h; simp [Op.eqFields]
        | cons f l ihl =>
          simp only [List.foldr_cons] at h
          simp only [Op.eqFields]
          by_cases hn : f.name = "_"
          · rw [if_pos hn] at h
            rw [if_neg (by simpa using hn)]
            exact ihl h
          · rw [if_neg hn] at h
            rw [if_pos hn]
            split at h
            · rename_i a c ha hc
              obtain ⟨u1, e1, r1⟩ := partD_sound (w := w) (fr := fr) ha vs l1 o1 c1
              obtain ⟨u2, e2, r2⟩ := partD_sound (w := w) (fr := fr) hc us l2 o2 c2
              simp only [Sem.run_bind, e1, e2, Result.andThen_ok]
              split at h
              · rename_i hq
                rw [ih _ _ _ _ _ _ hq r1 r2 d hd']
                simpa using ihl h
              · rename_i hq
                simp only [Option.some.injEq] at h; subst h
                rw [ih _ _ _ _ _ _ hq r1 r2 d hd']
                simp
              · cases h
            · cases h
    · cases h

end Go.Ev

import Derived.Test.YtdelaagbhhnniaaGreatDoorEvEq
namespace Go.Ev
set_option linter.unusedVariables false
set_option linter.unusedSimpArgs false

def eqPlain : Value → Value → Bool
  | .int _ _, .int _ _ => false
  | .float _ _, .float _ _ => false
  | .complex _ _ _, .complex _ _ _ => false
  | .string _, .string _ => false
  | _, _ => true

theorem binOp_eql {t : Nat} {x y : Value} (h : eqPlain x y = true) : binOp .eql t x y = (do pure (.bool (← Op.equal t x y))) := by
  cases x <;> cases y <;> first | rfl | (simp [eqPlain] at h)
theorem binOp_neq {t : Nat} {x y : Value} (h : eqPlain x y = true) : binOp .neq t x y = (do pure (.bool (!(← Op.equal t x y)))) := by
  cases x <;> cases y <;> first | rfl | (simp [eqPlain] at h)

def guardPlain : Value → Value → Bool
  | .nilIface, .nilIface => false
  | .agg _, .agg _ => false
  | _, _ => true

theorem guard_plain {P : Program} {w : World} {op : BinOp} {t : Nat} {ox oy : Operand} {x y : Value} (h : guardPlain x y = true) : (eqGuard op t ox oy x y).run P w = .ok () w := by
  have key : ∀ (c : Bool) (s : Sem Unit), s.run P w = .ok () w → (if c = true then pure () else s : Sem Unit).run P w = .ok () w := by
    intro c s hs; cases c
    · simpa using hs
    · rfl
  exact key _ _ (by cases x <;> cases y <;> first | rfl | (simp [guardPlain] at h))
theorem guard_agg {P : Program} {w : World} {op : BinOp} {t : Nat} {ox oy : Operand} {x y : Array Value} (h : P.eqGuardType P.depth t = false) : (eqGuard op t ox oy (.agg x) (.agg y)).run P w = .ok () w :=
  run_eqGuard_agg w op t ox oy x y h

theorem isAgg_cases (x : D) : (∃ l, x = .agg l) ∨ x.isAgg = false := by
  cases x <;> first | exact .inr rfl | exact .inl ⟨_, rfl⟩

def okPair : D → D → Bool
  | .bool _, .bool _ => true
  | .int _ _, .int _ _ => true
  | .str _, .str _ => true
  | .nilp, .nilp => true
  | .nilm, .nilm => true
  | .nilf, .nilf => true
  | .nili, .iface _ _ => true
  | .iface _ _, .nili => true
  | .iface _ _, .iface _ _ => true
  | .agg _, .agg _ => true
  | .nils, .nils => true
  | .nils, .sl _ _ => true
  | .sl _ _, .nils => true
  | _, _ => false

theorem eqvT_pair {P : Program} {n t : Nat} {x y : D} {b : Bool} (h : eqvT P n t x y = some b) : okPair x y = true := by
  cases n with
  | zero => simp [eqvT] at h
  | succ n => unfold eqvT at h; split at h <;> first | rfl | (cases h; done)

theorem equal_eq (t : Nat) (x y : Value) : Op.equal t x y = Op.equalIn (9999 + 1) t x y := rfl

theorem eqIn_ptr {P : Program} {w : World} (d : Nat) {t e : Nat} (hu : P.underlying t = some (.pointer e)) (a : Addr) :
    (Op.equalIn (d + 1) t (.pointer (some a)) (.pointer none)).run P w = .ok false w ∧ (Op.equalIn (d + 1) t (.pointer none) (.pointer (some a))).run P w = .ok false w := by
  constructor <;> simp [Op.equalIn, run_und w hu]
theorem eqIn_map {P : Program} {w : World} (d : Nat) {t k e : Nat} (hu : P.underlying t = some (.map k e)) (a : Nat) :
    (Op.equalIn (d + 1) t (.map (some a)) (.map none)).run P w = .ok false w := by simp [Op.equalIn, run_und w hu]
theorem eqIn_fn {P : Program} {w : World} (d : Nat) {t : Nat} {a b : Array Nat} {c : Bool} (hu : P.underlying t = some (.func a b c)) (f : Fn) (x y : Array Value) :
    (Op.equalIn (d + 1) t (.func f x y) .nilFunc).run P w = .ok false w := by simp [Op.equalIn, run_und w hu]
theorem eqIn_sl {P : Program} {w : World} (d : Nat) {t e : Nat} (hu : P.underlying t = some (.slice e)) (a : Addr) (n m : Nat) :
    (Op.equalIn (d + 1) t (.slice (some a) n m) (.slice none 0 0)).run P w = .ok false w := by simp [Op.equalIn, run_und w hu]

/-- '==' of two values that are no numbers and no texts. -/
theorem eqv_sound {P : Program} {cx : Cx} {S : St} {w : World} {t : Nat} {x y : AV} {b : Bool} {vx vy : Value} (h : AV.eqv P t x y = some b) (hx : ARel cx S w x vx) (hy : ARel cx S w y vy)
    (hn : ¬ (∃ k n k' n', x = .d (.int k n) ∧ y = .d (.int k' n'))) (hs : ¬ (∃ s s', x = .d (.str s) ∧ y = .d (.str s'))) :
    eqPlain vx vy = true ∧ (∀ (op : BinOp) ox oy, (eqGuard op t ox oy vx vy).run P w = .ok () w) ∧ (Op.equal t vx vy).run P w = .ok b w := by
  have ptr : ∀ {a : Option Addr} {e : Nat}, P.underlying t = some (.pointer e) → a.isSome = true → b = false →
      (eqPlain (.pointer a) (.pointer none) = true ∧ (∀ (op : BinOp) ox oy, (eqGuard op t ox oy (.pointer a) (.pointer none)).run P w = .ok () w) ∧ (Op.equal t (.pointer a) (.pointer none)).run P w = .ok b w) ∧
      (eqPlain (.pointer none) (.pointer a) = true ∧ (∀ (op : BinOp) ox oy, (eqGuard op t ox oy (.pointer none) (.pointer a)).run P w = .ok () w) ∧ (Op.equal t (.pointer none) (.pointer a)).run P w = .ok b w) := by
    intro a e hu ha hb
    subst hb
    obtain ⟨ad, rfl⟩ := Option.isSome_iff_exists.1 ha
    exact ⟨⟨rfl, fun _ _ _ => guard_plain rfl, (eqIn_ptr 9999 hu ad).1⟩, ⟨rfl, fun _ _ _ => guard_plain rfl, (eqIn_ptr 9999 hu ad).2⟩⟩
  unfold AV.eqv at h
  split at h
  · rename_i x y
    have hdx := hx.dd; have hdy := hy.dd
    split at h
    · rename_i lx ly
      split at h
      · cases h
      · rename_i hg
        have := eqvT_sound 20 t _ _ b vx vy h hdx hdy 10000 (by omega)
        obtain ⟨vs, rfl, _⟩ := hdx.aggI
        obtain ⟨us, rfl, _⟩ := hdy.aggI
        exact ⟨rfl, fun _ _ _ => guard_agg (by simpa using hg), this⟩
    · rename_i hna
      have hrun := eqvT_sound 20 t x y b vx vy h hdx hdy 10000 (by omega)
      have hp := eqvT_pair h
      have both : eqPlain vx vy = true ∧ guardPlain vx vy = true := by
        rcases isAgg_cases x with ⟨l, rfl⟩ | hxa
        · cases y <;> first | (exact absurd rfl (hna _ _ rfl)) | (cases hp; done)
        · rcases isAgg_cases y with ⟨l, rfl⟩ | hya
          · cases x <;> first | (simp [D.isAgg] at hxa; done) | (cases hp; done)
          · have h1 := hdx.val hxa; have h2 := hdy.val hya
            clear hrun h hx hy hna
            cases h1 <;> cases h2 <;> first | exact ⟨rfl, rfl⟩ | (exact absurd ⟨_, _, _, _, rfl, rfl⟩ hn) | (exact absurd ⟨_, _, rfl, rfl⟩ hs) | (cases hp; done) | (simp [D.isAgg] at hxa; done)
      exact ⟨both.1, fun _ _ _ => guard_plain both.2, hrun⟩
  · split at h
    · rename_i e hu
      cases hx
      have := hy.dd.val rfl; cases this
      simp only [Option.some.injEq] at h; subst h
      exact ⟨rfl, fun _ _ _ => guard_plain rfl, eqIn_sl 9999 hu _ _ _⟩
    · cases h
  · split at h
    · rename_i e hu
      cases hx
      have := hy.dd.val rfl; cases this
      simp only [Option.some.injEq] at h; subst h
      exact ⟨rfl, fun _ _ _ => guard_plain rfl, eqIn_sl 9999 hu _ _ _⟩
    · cases h
  · split at h
    · rename_i e hu
      cases hx with
      | ptr _ _ _ _ hn hp =>
        have := hy.dd.val rfl; cases this
        exact (ptr hu rfl (by simpa using h.symm)).1
    · cases h
  · split at h
    · rename_i e hu
      cases hx
      have := hy.dd.val rfl; cases this
      exact (ptr hu rfl (by simpa using h.symm)).1
    · cases h
  · split at h
    · rename_i e hu
      cases hy
      have := hx.dd.val rfl; cases this
      exact (ptr hu rfl (by simpa using h.symm)).2
    · cases h
  · split at h
    · rename_i e hu
      cases hy
      have := hx.dd.val rfl; cases this
      exact (ptr hu rfl (by simpa using h.symm)).2
    · cases h
  · split at h
    · rename_i e1 e2 hu
      cases hx
      have := hy.dd.val rfl; cases this
      simp only [Option.some.injEq] at h; subst h
      exact ⟨rfl, fun _ _ _ => guard_plain rfl, eqIn_map 9999 hu _⟩
    · cases h
  · split at h
    · rename_i e1 e2 e3 hu
      cases hx
      have := hy.dd.val rfl; cases this
      simp only [Option.some.injEq] at h; subst h
      exact ⟨rfl, fun _ _ _ => guard_plain rfl, eqIn_fn 9999 hu _ _ _⟩
    · cases h
  · cases h

theorem binD_sound {P : Program} {cx : Cx} {S : St} {w : World} {t : Nat} {op : BinOp} {x y : AV} {r : D} {vx vy : Value} (h : binD P t op x y = some r) (hx : ARel cx S w x vx) (hy : ARel cx S w y vy) (ox oy : Operand) :
    ∃ u, (do eqGuard op t ox oy vx vy; binOp op t vx vy).run P w = .ok u w ∧ ARel cx S w (.d r) u := by
  have num : ∀ {k n k' n'}, vx = .int k n → vy = .int k' n' → (eqGuard op t ox oy vx vy).run P w = .ok () w := fun h1 h2 => by subst h1; subst h2; exact guard_plain rfl
  unfold binD at h
  split at h
  · have h1 := hx.int; have h2 := hy.int; subst h1; subst h2
    obtain ⟨u, h3, h4⟩ := shiftD_sound (P := P) (cx := cx) (S := S) (w := w) h t (.inl rfl)
    exact ⟨u, by rw [Sem.run_bind, num rfl rfl]; exact h3, h4⟩
  · have h1 := hx.int; have h2 := hy.int; subst h1; subst h2
    obtain ⟨u, h3, h4⟩ := shiftD_sound (P := P) (cx := cx) (S := S) (w := w) h t (.inr rfl)
    exact ⟨u, by rw [Sem.run_bind, num rfl rfl]; exact h3, h4⟩
  · rename_i k a k' b hs1 hs2
    have h1 := hx.int; have h2 := hy.int; subst h1; subst h2
    split at h
    · rename_i hk
      subst hk
      obtain ⟨u, h3, h4⟩ := intBin_sound (P := P) (cx := cx) (S := S) (w := w) h t ⟨fun q => hs1 q, fun q => hs2 q⟩
      exact ⟨u, by rw [Sem.run_bind, num rfl rfl]; exact h3, h4⟩
    · cases h
  · obtain ⟨s1, rfl, rfl⟩ := hx.str
    obtain ⟨s2, rfl, rfl⟩ := hy.str
    obtain ⟨u, h3, h4⟩ := strBin_sound (P := P) (cx := cx) (S := S) (w := w) h t
    exact ⟨u, by rw [Sem.run_bind, guard_plain rfl]; exact h3, h4⟩
  · rename_i hni hns
    simp only [Option.map_eq_some_iff] at h
    obtain ⟨b, hb, rfl⟩ := h
    obtain ⟨h1, h2, h3⟩ := eqv_sound hb hx hy (fun ⟨k, n, k', n', q1, q2⟩ => by subst q1; subst q2; exact hni _ _ _ _ rfl rfl) (fun ⟨s, s', q1, q2⟩ => by subst q1; subst q2; exact hns _ _ rfl rfl)
    exact ⟨.bool b, by rw [Sem.run_bind, h2, binOp_eql h1]; simp [h3], .of_bool b⟩
  · rename_i hni hns
    simp only [Option.map_eq_some_iff] at h
    obtain ⟨b, hb, rfl⟩ := h
    obtain ⟨h1, h2, h3⟩ := eqv_sound hb hx hy (fun ⟨k, n, k', n', q1, q2⟩ => by subst q1; subst q2; exact hni _ _ _ _ rfl rfl) (fun ⟨s, s', q1, q2⟩ => by subst q1; subst q2; exact hns _ _ rfl rfl)
    exact ⟨.bool (!b), by rw [Sem.run_bind, h2, binOp_neq h1]; simp [h3], .of_bool _⟩
  · cases h

end Go.Ev

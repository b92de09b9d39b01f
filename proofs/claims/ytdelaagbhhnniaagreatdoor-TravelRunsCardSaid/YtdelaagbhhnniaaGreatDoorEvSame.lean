import Derived.Test.YtdelaagbhhnniaaGreatDoorEvCore
namespace Go.Ev
set_option linter.unusedVariables false
set_option linter.unusedSimpArgs false

mutual
theorem D.same_eq : ∀ (x y : D), D.same x y = true → x = y
  | .bool a, y, h => by cases y <;> simp_all [D.same]
  | .int k n, y, h => by cases y <;> simp_all [D.same]
  | .flt k n, y, h => by cases y <;> simp_all [D.same]
  | .str a, y, h => by cases y <;> simp_all [D.same]
  | .nilp, y, h => by cases y <;> simp_all [D.same]
  | .nilm, y, h => by cases y <;> simp_all [D.same]
  | .nilf, y, h => by cases y <;> simp_all [D.same]
  | .nili, y, h => by cases y <;> simp_all [D.same]
  | .nils, y, h => by cases y <;> simp_all [D.same]
  | .sl xs t, y, h => by
    cases y <;> simp only [D.same, Bool.and_eq_true, beq_iff_eq, Bool.false_eq_true] at h
    rw [h.1, D.sames_eq _ _ h.2]
  | .agg xs, y, h => by
    cases y <;> simp only [D.same, Bool.false_eq_true] at h
    rw [D.sames_eq _ _ h]
  | .iface t x, y, h => by
    cases y <;> simp only [D.same, Bool.and_eq_true, Bool.false_eq_true] at h
    rw [Nat.eq_of_beq_eq_true h.1, D.same_eq _ _ h.2]
theorem D.sames_eq : ∀ (xs ys : List D), D.sames xs ys = true → xs = ys
  | [], ys, h => by cases ys <;> simp_all [D.sames]
  | x :: xs, ys, h => by
    cases ys <;> simp only [D.sames, Bool.and_eq_true, Bool.false_eq_true] at h
    rw [D.same_eq _ _ h.1, D.sames_eq _ _ h.2]
end

mutual
theorem AV.same_eq : ∀ (x y : AV), AV.same x y = true → x = y
  | .d x, y, h => by
    cases y <;> simp only [AV.same, Bool.false_eq_true] at h
    rw [D.same_eq _ _ h]
  | .tsl xs t, y, h => by
    cases y <;> simp only [AV.same, Bool.and_eq_true, Bool.false_eq_true] at h
    rw [Nat.eq_of_beq_eq_true h.1, D.sames_eq _ _ h.2]
  | .ptr x1 x2 x3, y, h => by
    cases y <;> simp only [AV.same, Bool.and_eq_true, Bool.false_eq_true] at h
    rw [Nat.eq_of_beq_eq_true h.1.1, Nat.eq_of_beq_eq_true h.1.2, Nat.eq_of_beq_eq_true h.2]
  | .eptr x o, y, h => by
    cases y <;> simp only [AV.same, Bool.and_eq_true, Bool.false_eq_true] at h
    rw [Nat.eq_of_beq_eq_true h.1, D.same_eq _ _ h.2]
  | .msl x1 x2 x3 x4 x5 x6, y, h => by
    cases y <;> simp only [AV.same, Bool.and_eq_true, Bool.false_eq_true] at h
    obtain ⟨⟨⟨⟨⟨h1, h2⟩, h3⟩, h4⟩, h5⟩, h6⟩ := h
    rw [Nat.eq_of_beq_eq_true h1, Nat.eq_of_beq_eq_true h2, Nat.eq_of_beq_eq_true h3, Nat.eq_of_beq_eq_true h4, Nat.eq_of_beq_eq_true h5, Nat.eq_of_beq_eq_true h6]
  | .map x, y, h => by
    cases y <;> simp only [AV.same, Bool.false_eq_true] at h
    rw [Nat.eq_of_beq_eq_true h]
  | .fn f xs, y, h => by
    cases y <;> simp only [AV.same, Bool.and_eq_true, Bool.false_eq_true] at h
    rw [Nat.eq_of_beq_eq_true h.1, AV.sames_eq _ _ h.2]
  | .agg xs, y, h => by
    cases y <;> simp only [AV.same, Bool.false_eq_true] at h
    rw [AV.sames_eq _ _ h]
  | .tup xs, y, h => by
    cases y <;> simp only [AV.same, Bool.false_eq_true] at h
    rw [AV.sames_eq _ _ h]
  | .any, y, h => by
    cases y <;> simp only [AV.same, Bool.false_eq_true] at h
    rfl
theorem AV.sames_eq : ∀ (xs ys : List AV), AV.sames xs ys = true → xs = ys
  | [], ys, h => by cases ys <;> simp_all [AV.sames]
  | x :: xs, ys, h => by
    cases ys <;> simp only [AV.sames, Bool.and_eq_true, Bool.false_eq_true] at h
    rw [AV.same_eq _ _ h.1, AV.sames_eq _ _ h.2]
end

end Go.Ev

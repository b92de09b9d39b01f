import Derived.Test.YtdelaagbhhnniaaGreatDoorEvTok
namespace Go.Ev
set_option linter.unusedVariables false
set_option linter.unusedSimpArgs false

theorem growBy_le (need : Nat) : ∀ (r c : Nat), c < need + (need + 768) / 4 → Builtin.growBy need r c ≤ need + (need + 768) / 4
  | 0, c, h => by simp [Builtin.growBy]; omega
  | r + 1, c, h => by
    simp only [Builtin.growBy]
    split
    · omega
    · rename_i hc
      by_cases h2 : c + (c + 768) / 4 < need + (need + 768) / 4
      · exact growBy_le need r _ h2
      · omega

theorem nextcap_le {need cap : Nat} (h : cap < need) : Builtin.nextslicecap need cap ≤ 2 * need + 192 := by
  unfold Builtin.nextslicecap
  split
  · omega
  · split
    · omega
    · have := growBy_le need 4 cap (by omega)
      omega

theorem okSrc_some {C : Cfg} {t2 : Nat} (h : okSrc C t2 = true) : (∃ e, C.P.underlying t2 = some (.slice e)) ∨ C.P.underlying t2 = some .string := by
  unfold okSrc at h
  split at h
  · exact .inl ⟨_, by assumption⟩
  · exact .inr (by assumption)
  · cases h

section
variable {C : Cfg} {w : World} {t t2 e ty : Nat} {ie : TypeInfo} {base : Option Addr} {sLen sCap n : Nat} {u : Value}

theorem run_append_fits (hu : C.P.underlying t = some (.slice e)) (hi : C.P.info? e = some ie) (h2 : okSrc C t2 = true) (hn : (Builtin.lenOf u).run C.P w = .ok n w) (hle : sLen + n ≤ sCap)
    {new : Array Value} (hnew : (Builtin.firstCells ie.size n u).run C.P w = .ok new w) :
    (Builtin.append_ #[t, t2] ty #[.slice base sLen sCap, u]).run C.P w = match base with
      | some a => ((storeCells (a.add (sLen * ie.size)) new.toList).run C.P w).andThen fun _ w' => .ok (.slice base (sLen + n) sCap) w'
      | none => .ok (.slice base (sLen + n) sCap) w := by
  have hs : (Go.sizeOf e).run C.P w = .ok ie.size w := by simp [Go.sizeOf, typeInfo, hi]
  rcases okSrc_some h2 with ⟨e2, h2⟩ | h2 <;>
  · simp only [Builtin.append_, List.getElem?_toArray, List.getElem?_cons_zero, List.getElem?_cons_succ, Sem.run_bind, run_und w hu, run_und w h2, Result.andThen_ok, hs, Sem.run_pure, Bool.false_eq_true, if_false, hn, if_pos hle, Bool.not_false, if_true, hnew]
    cases base with
    | none => simp
    | some a => simp only [Sem.run_bind, Sem.run_pure]

theorem run_append_grows (hu : C.P.underlying t = some (.slice e)) (hi : C.P.info? e = some ie) (h2 : okSrc C t2 = true) (hn : (Builtin.lenOf u).run C.P w = .ok n w) (hgt : ¬ sLen + n ≤ sCap)
    (hb0 : 0 < ie.bytes) (hb1 : ie.bytes ≤ 65536) (hb2 : (sLen + n) * ie.bytes ≤ bound) {z : Value} (hz0 : ie.zero = some z)
    {old new : Array Value} (hold : (Builtin.firstCells ie.size sLen (.slice base sLen sCap)).run C.P w.drew = .ok old w.drew) (hnew : (Builtin.firstCells ie.size n u).run C.P w.drew = .ok new w.drew) :
    ∃ nc, sLen + n ≤ nc ∧ nc ≤ 9223372036854775807 ∧ (Builtin.append_ #[t, t2] ty #[.slice base sLen sCap, u]).run C.P w =
      .ok (.slice (some ⟨w.heap.size, 0, none⟩) (sLen + n) nc) (w.drew.alloc (.cells (old ++ new ++ Builtin.zeroCells z.cells (nc - (sLen + n))) e)) := by
  have hs : (Go.sizeOf e).run C.P w = .ok ie.size w := by simp [Go.sizeOf, typeInfo, hi]
  have ht : ∀ w, (typeInfo e).run C.P w = .ok ie w := fun w => by simp [typeInfo, hi]
  have hcap : ¬ Builtin.nextslicecap (sLen + n) sCap * ie.bytes > 2 ^ 48 := by
    have h1 := nextcap_le (need := sLen + n) (cap := sCap) (by omega)
    have h2 : Builtin.nextslicecap (sLen + n) sCap * ie.bytes ≤ (2 * (sLen + n) + 192) * ie.bytes := Nat.mul_le_mul_right _ h1
    have h3 : (2 * (sLen + n) + 192) * ie.bytes = 2 * ((sLen + n) * ie.bytes) + 192 * ie.bytes := by rw [Nat.add_mul, Nat.mul_assoc]
    have h4 : (2 : Nat) ^ 48 = 281474976710656 := by decide
    unfold bound at hb2
    omega
  have hzv : ∀ w, (zeroValue e).run C.P w = .ok z w := fun w => by simp [zeroValue, typeInfo, hi, hz0]
  refine ⟨sLen + n + w.tape w.drawn (.appendCap (sLen + n) sCap e) % (2 ^ 63 - (sLen + n)), by omega, by
    have h1 : sLen + n ≤ (sLen + n) * ie.bytes := Nat.le_mul_of_pos_right _ hb0
    have h2 : (2 : Nat) ^ 63 = 9223372036854775808 := by decide
    unfold bound at hb2
    have h3 := Nat.mod_lt (w.tape w.drawn (.appendCap (sLen + n) sCap e)) (show 0 < 2 ^ 63 - (sLen + n) by omega)
    omega, ?_⟩
  have hzb : ¬ (((sLen + n : Nat) : Int) > IntKind.i64.max ∧ (False ∨ ie.bytes = 0)) := fun q => by
    rcases q.2 with q | q
    · exact q
    · omega
  have hd : ({ w with drawn := w.drawn + 1 } : World) = w.drew := rfl
  rcases okSrc_some h2 with ⟨e2, h2⟩ | h2 <;>
  · simp only [Builtin.append_, List.getElem?_toArray, List.getElem?_cons_zero, List.getElem?_cons_succ, Sem.run_bind, run_und w hu, run_und w h2, Result.andThen_ok, hs, Sem.run_pure, Bool.false_eq_true, if_false, hn, if_neg hgt, ht]
    rw [if_neg hzb]
    simp only [Result.andThen_ok, Sem.run_bind, Sem.run_pure, ht]
    rw [if_neg hcap]
    simp only [Result.andThen_ok, Sem.run_bind, Sem.run_pure, run_choose, Question.forced, Bool.false_eq_true, if_false, Question.cut, ht, run_askRoom]
    rw [hd, hold]
    simp only [Result.andThen_ok, Bool.not_false, if_true]
    rw [hnew]
    simp only [Result.andThen_ok, hzv, newRow, Sem.run_bind, Sem.run_pure, run_newObj]
    rfl
end

end Go.Ev

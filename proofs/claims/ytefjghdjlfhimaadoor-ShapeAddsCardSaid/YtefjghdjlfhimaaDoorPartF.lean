import Derived.Test.YtefjghdjlfhimaaDoorPartE
namespace Go.Ev
namespace Pr
set_option linter.unusedVariables false
set_option linter.unusedSimpArgs false

theorem tgood_node {g k : Str} {l : List Tree} (hg : tagOk g = true) (hk : k.length ≤ 64) (hl : l.length ≤ 24) (h : ∀ z ∈ l, tgood z) : tgood (.mk g k [] [] l) :=
  (tgood_iff _).2 ⟨.inr ⟨hg, rfl, hk, .inl rfl, hl⟩, lg_mem.2 h⟩
theorem x_ok : tagOk [120] = true := by decide +kernel
theorem y_ok : tagOk [121] = true := by decide +kernel
/-- A tree below a new one. -/
theorem up_facts (t : Tree) (h : tgood t) : tgood (.mk [121] [] [] [] [t]) ∧ tcnt (.mk [121] [] [] [] [t]) = tcnt t + 1 ∧ tdep (.mk [121] [] [] [] [t]) = tdep t + 1 := by
  refine ⟨tgood_node y_ok (by simp) (by simp) (fun z hz => by rw [List.mem_singleton.1 hz]; exact h), ?_, ?_⟩
  · rw [tcnt, lcnt, lcnt]; omega
  · rw [tdep, ldep, ldep]; omega
theorem adds_loop (n : Nat) (hn : 300 < n) (a b : Tree) (ha : tgood a) (hb : tgood b) (ca : tcnt a ≤ 13) (cb : tcnt b ≤ 13) (da : tdep a ≤ 7) (db : tdep b ≤ 7) : ∀ (m : Nat) (t : Tree) (k : Nat), tgood t → tcnt t + m ≤ 30 → tdep t + m = 12 → m < k →
    porticolaw13_ShapeAdds_l60 n a b k t.Tag t.Key t.Text t.Attrs t.Kids = some true
  | 0, t, k + 1, ht, hc, hd, hk => by
    have hboth : tgood (.mk [120] [] [] [] [a, b]) := tgood_node x_ok (by simp) (by simp) (fun z hz => by
      simp only [List.mem_cons, List.not_mem_nil, or_false] at hz
      rcases hz with rfl | rfl
      · exact ha
      · exact hb)
    have cboth : tcnt (.mk [120] [] [] [] [a, b]) = 1 + tcnt a + tcnt b := by rw [tcnt, lcnt, lcnt, lcnt]; omega
    have dboth : tdep (.mk [120] [] [] [] [a, b]) = 1 + max (tdep a) (tdep b) := by rw [tdep, ldep, ldep, ldep]; omega
    have sboth := tsz_le 100 _ (by rw [cboth]; omega) hboth
    obtain ⟨u1, u2, u3⟩ := up_facts t ht
    rw [porticolaw13_ShapeAdds_l60, tree_eta]
    rw [deep_ok 100 t (by omega) (by omega) n (by omega), Option.bind_some, if_neg (by rw [decide_eq_true_eq]; omega), Option.bind_some, if_neg (by simp)]
    rw [Right_ok n t (by omega) (by omega) ht, Option.bind_some]
    rw [show (decide (tcnt t ≤ 60) && decide (tdep t ≤ 12)) = true by simp; omega]
    rw [if_neg (by simp), Right_ok n _ (by omega) (by rw [cboth]; omega) hboth, Option.bind_some]
    rw [show (decide (tcnt (Tree.mk [120] [] [] [] [a, b]) ≤ 60) && decide (tdep (Tree.mk [120] [] [] [] [a, b]) ≤ 12)) = true by rw [cboth, dboth]; simp; omega]
    rw [Option.bind_some, if_neg (by simp), Option.bind_some, if_pos (by simp; omega)]
    rw [Right_ok n _ (by omega) (by omega) u1, Option.bind_some, Option.bind_some]
    rw [show (decide (tcnt (Tree.mk [121] [] [] [] [t]) ≤ 60) && decide (tdep (Tree.mk [121] [] [] [] [t]) ≤ 12)) = false by rw [u2, u3]; simp; omega]
    rw [if_neg (by simp), copy_ok 200 _ (by rw [cboth] at sboth; omega) (by omega) n (by omega), Option.bind_some]
    rw [same_ok 200 _ _ (by rw [cboth] at sboth; omega) (by omega) n (by omega), Option.bind_some, tbeq_refl, if_pos rfl]
    rw [count_ok 100 _ (by simp [tcnt, lcnt]) (by omega) n (by omega), Option.bind_some, if_pos (by simp [tcnt, lcnt])]
    rfl
  | m + 1, t, k + 1, ht, hc, hd, hk => by
    obtain ⟨u1, u2, u3⟩ := up_facts t ht
    rw [porticolaw13_ShapeAdds_l60, tree_eta]
    rw [deep_ok 100 t (by omega) (by omega) n (by omega), Option.bind_some, if_pos (by rw [decide_eq_true_eq]; omega)]
    rw [count_ok 100 t (by omega) (by omega) n (by omega), Option.bind_some, Option.bind_some, if_pos (by rw [decide_eq_true_eq]; omega)]
    exact adds_loop n hn a b ha hb ca cb da db m _ k u1 (by omega) (by omega) (by omega)

theorem shapeAdds_ok (k o : K_Wood) : porticolaw13_ShapeAdds 1000 k o = some true := by
  obtain ⟨a, a1, ha, ca, da, _, _⟩ := wood_ok k 1000 (by omega)
  obtain ⟨b, b1, hb, cb, db, _, _⟩ := wood_ok o 1000 (by omega)
  have cboth : tcnt (.mk [120] [] [] [] [a, b]) = 1 + tcnt a + tcnt b := by rw [tcnt, lcnt, lcnt, lcnt]; omega
  have dboth : tdep (.mk [120] [] [] [] [a, b]) = 1 + max (tdep a) (tdep b) := by rw [tdep, ldep, ldep, ldep]; omega
  have lboth : tslo (.mk [120] [] [] [] [a, b]) = tslo a + tslo b := by rw [tslo, lslo, lslo, lslo]; simp [isOut]
  have sa : tslo a ≤ tcnt a := by have := lslo_le [a]; simpa [lslo, lcnt] using this
  have sb : tslo b ≤ tcnt b := by have := lslo_le [b]; simpa [lslo, lcnt] using this
  unfold porticolaw13_ShapeAdds
  rw [a1, Option.bind_some, b1, Option.bind_some, count_ok 100 _ (by omega) (by omega) 1000 (by omega), Option.bind_some, count_ok 100 a (by omega) (by omega) 1000 (by omega), Option.bind_some, count_ok 100 b (by omega) (by omega) 1000 (by omega), Option.bind_some]
  rw [w64 (n := (tcnt a : Int) + tcnt b) (by omega) (by omega), w64 (by omega) (by omega), if_neg (by rw [cboth]; simp; omega)]
  rw [slots_ok 100 _ (by omega) (by omega) 1000 (by omega), Option.bind_some, slots_ok 100 a (by omega) (by omega) 1000 (by omega), Option.bind_some, slots_ok 100 b (by omega) (by omega) 1000 (by omega), Option.bind_some]
  rw [w64 (by omega) (by omega), if_neg (by rw [lboth]; simp)]
  rw [deep_ok 100 _ (by omega) (by omega) 1000 (by omega), Option.bind_some, deep_ok 100 a (by omega) (by omega) 1000 (by omega), Option.bind_some, deep_ok 100 b (by omega) (by omega) 1000 (by omega), Option.bind_some]
  have hm : maxI (tdep a : Int) (tdep b : Int) = ((max (tdep a) (tdep b) : Nat) : Int) := by unfold maxI; split <;> omega
  rw [hm, w64 (by omega) (by omega)]
  unfold porticolaw13_ShapeAdds_j37
  rw [if_neg (by rw [dboth]; simp)]
  have hda : 1 ≤ tdep a := by rw [tdep_kids]; omega
  exact adds_loop 1000 (by omega) a b ha hb ca cb da db (12 - tdep a) a 1000 ha (by omega) (by omega) (by omega)

end Pr
end Go.Ev


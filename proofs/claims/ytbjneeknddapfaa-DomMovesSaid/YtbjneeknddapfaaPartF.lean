import Derived.Test.YtbjneeknddapfaaPartE
namespace Go.Ev
namespace Pr
set_option linter.unusedVariables false
set_option linter.unusedSimpArgs false

/-! ### DomMoves: a dom with two parents, and kids of the one or the other -/
structure Two (d : dom_Dom) (row rowb : List Int) (m : Nat) : Prop where
  wf : WF d
  fr : d.freed = []
  len : d.l.length = 3 + m
  root : nd d 1 = some (dom_node.mk true [114, 111, 111, 116] [] [] [] [2, 3] 0)
  a : nd d 2 = some (dom_node.mk true [97] [] [] [] row 1)
  b : nd d 3 = some (dom_node.mk true [98] [] [] [] rowb 1)
  kid : ∀ i : Int, 4 ≤ i → i ≤ 3 + (m : Int) → ∃ key, nd d i = some (dom_node.mk true [107] key [] [] [] (if i ∈ row then 2 else 3))
  rowR : ∀ i ∈ row, 4 ≤ i ∧ i ≤ 3 + (m : Int)
  rowN : row.Nodup
  small : m ≤ 8

theorem Two.lvb {d : dom_Dom} {row rowb : List Int} {m : Nat} (h : Two d row rowb m) {i : Int} (h1 : 1 ≤ i) (h2 : i ≤ 3 + (m : Int)) : lvb d i = true := by
  by_cases h3 : 4 ≤ i
  · obtain ⟨k, hk⟩ := h.kid i h3 h2; rw [lvb_of hk]
  · have : i = 1 ∨ i = 2 ∨ i = 3 := by omega
    rcases this with rfl | rfl | rfl
    · rw [lvb_of h.root]
    · rw [lvb_of h.a]
    · rw [lvb_of h.b]
theorem Two.pathA {d : dom_Dom} {row rowb : List Int} {m : Nat} (h : Two d row rowb m) : Path d 2 [2, 1] := .up h.a rfl (by simp) (.top h.root rfl rfl)
theorem Two.pathB {d : dom_Dom} {row rowb : List Int} {m : Nat} (h : Two d row rowb m) : Path d 3 [3, 1] := .up h.b rfl (by simp) (.top h.root rfl rfl)
theorem Two.okA {d : dom_Dom} {row rowb : List Int} {m : Nat} (h : Two d row rowb m) {i : Int} (h1 : 4 ≤ i) (h2 : i ≤ 3 + (m : Int)) : insOk d 2 i = true := by
  unfold insOk
  have ht : tagOf d 2 = [97] := by unfold tagOf; rw [h.a]
  rw [h.lvb (i := 2) (by omega) (by omega), h.lvb (i := i) (by omega) h2, ht, h.pathA.of]
  simp; omega
theorem Two.okB {d : dom_Dom} {row rowb : List Int} {m : Nat} (h : Two d row rowb m) {i : Int} (h1 : 4 ≤ i) (h2 : i ≤ 3 + (m : Int)) : insOk d 3 i = true := by
  unfold insOk
  have ht : tagOf d 3 = [98] := by unfold tagOf; rw [h.b]
  rw [h.lvb (i := 3) (by omega) (by omega), h.lvb (i := i) (by omega) h2, ht, h.pathB.of]
  simp; omega
/-- No kid stands in the rows of the root. -/
theorem er2 (i : Int) (h : 4 ≤ i) : ([2, 3] : List Int).erase i = [2, 3] := List.erase_of_not_mem (by simp; omega)
/-- A kid moved within the first parent. -/
theorem Two.moveA {d : dom_Dom} {row rowb : List Int} {m : Nat} (h : Two d row rowb m) {i : Int} (hi : i ∈ row) (a : Int) : Two (dlink (dleave d i) 2 i a) (insK (row.erase i) a i) rowb m := by
  obtain ⟨r1, r2⟩ := h.rowR i hi
  obtain ⟨hw, hg⟩ := ins_wf h.wf a (h.okA r1 r2)
  have hmem : ∀ x, x ∈ insK (row.erase i) a i ↔ x ∈ row := fun x => by
    rw [insK_mem, List.Nodup.mem_erase_iff h.rowN]
    constructor
    · rintro (rfl | ⟨_, q⟩)
      · exact hi
      · exact q
    · intro q
      by_cases e : x = i
      · exact .inl e
      · exact .inr ⟨e, q⟩
  have hib : i ∉ rowb := fun q => by
    obtain ⟨y, y1, y2, y3⟩ := h.wf.kid 3 _ i h.b rfl q
    obtain ⟨z, z1, z2, z3⟩ := h.wf.kid 2 _ i h.a rfl hi
    rw [y1] at z1; cases z1; omega
  refine ⟨hw, by simp [h.fr], by simp [h.len], ?_, ?_, ?_, fun j j1 j2 => ?_, fun j hj => h.rowR j ((hmem j).1 hj), insK_nodup (h.rowN.erase _) (fun q => ((List.Nodup.mem_erase_iff h.rowN).1 q).1 rfl), h.small⟩
  · rw [hg 1 _ h.root rfl, er2 i r1]; simp; omega
  · rw [hg 2 _ h.a rfl]; simp; omega
  · rw [hg 3 _ h.b rfl]
    have : rowb.erase i = rowb := List.erase_of_not_mem hib
    simp [this]; omega
  · obtain ⟨key, hk⟩ := h.kid j j1 j2
    refine ⟨key, ?_⟩
    rw [hg j _ hk rfl]
    have e1 : ¬ j = 2 := by omega
    have e2 : ([] : List Int).erase i = [] := rfl
    simp only [e1, if_false, e2, hmem]
    by_cases e : j = i
    · subst e; simp [hi]
    · simp [e]
/-- A kid moved to the second parent. -/
theorem Two.moveB {d : dom_Dom} {row rowb : List Int} {m : Nat} {i : Int} (h : Two d (i :: row) rowb m) : Two (dlink (dleave d i) 3 i (-5)) row (i :: rowb) m := by
  obtain ⟨r1, r2⟩ := h.rowR i List.mem_cons_self
  obtain ⟨hw, hg⟩ := ins_wf h.wf (-5) (h.okB r1 r2)
  have hn := List.nodup_cons.1 h.rowN
  have hib : i ∉ rowb := fun q => by
    obtain ⟨y, y1, y2, y3⟩ := h.wf.kid 3 _ i h.b rfl q
    obtain ⟨z, z1, z2, z3⟩ := h.wf.kid 2 _ i h.a rfl List.mem_cons_self
    rw [y1] at z1; cases z1; omega
  refine ⟨hw, by simp [h.fr], by simp [h.len], ?_, ?_, ?_, fun j j1 j2 => ?_, fun j hj => h.rowR j (List.mem_cons_of_mem _ hj), hn.2, h.small⟩
  · rw [hg 1 _ h.root rfl, er2 i r1]; simp; omega
  · rw [hg 2 _ h.a rfl]; simp; omega
  · rw [hg 3 _ h.b rfl]
    have e : rowb.erase i = rowb := List.erase_of_not_mem hib
    have e2 : insK rowb (-5) i = i :: rowb := by
      unfold insK clampK
      rw [show (max 0 (min (-5) (rowb.length : Int))).toNat = 0 by omega]; rfl
    simp [e, e2]; omega
  · obtain ⟨key, hk⟩ := h.kid j j1 j2
    refine ⟨key, ?_⟩
    rw [hg j _ hk rfl]
    have e1 : ¬ j = 3 := by omega
    have e2 : ([] : List Int).erase i = [] := rfl
    simp only [e1, if_false, e2]
    by_cases e : j = i
    · subst e; simp [hn.1]
    · simp [e]
/-- A new kid. -/
theorem Two.newA {d d1 : dom_Dom} {row rowb : List Int} {m : Nat} (h : Two d row rowb m) (hm : m < 8) {key : Str} {z : dom_node} (hz : z = dom_node.mk true [107] key [] [] [] 0) (hw1 : WF d1) (hn : New d d1 (nextId d) z) (hf : d1.freed = d.freed.dropLast) (hl : d1.l.length = (if d.freed = [] then d.l.length + 1 else d.l.length)) (a : Int) :
    nextId d = 4 + (m : Int) ∧ insOk d1 2 (nextId d) = true ∧ Two (dlink (dleave d1 (nextId d)) 2 (nextId d) a) (insK row a (nextId d)) rowb (m + 1) := by
  have hid : nextId d = 4 + (m : Int) := by unfold nextId; rw [h.fr]; simp [h.len]; omega
  rw [hid] at hn ⊢
  have g1 : nd d1 1 = _ := (hn.get 1).trans ((if_neg (by omega)).trans h.root)
  have g2 : nd d1 2 = _ := (hn.get 2).trans ((if_neg (by omega)).trans h.a)
  have g3 : nd d1 3 = _ := (hn.get 3).trans ((if_neg (by omega)).trans h.b)
  have gn : nd d1 (4 + (m : Int)) = some z := (hn.get _).trans (if_pos rfl)
  have hp : Path d1 2 [2, 1] := .up g2 rfl (by simp) (.top g1 rfl rfl)
  have hok : insOk d1 2 (4 + (m : Int)) = true := by
    unfold insOk
    have ht : tagOf d1 2 = [97] := by unfold tagOf; rw [g2]
    rw [lvb_of g2, lvb_of gn, ht, hp.of, hz]
    simp; omega
  obtain ⟨hw, hg⟩ := ins_wf hw1 a hok
  have hnr : (4 + (m : Int)) ∉ row := fun q => by have := h.rowR _ q; omega
  have hnb : (4 + (m : Int)) ∉ rowb := fun q => by
    obtain ⟨y, y1, _⟩ := h.wf.kid 3 _ _ h.b rfl q
    have := nd_range y1; rw [h.len] at this; omega
  refine ⟨rfl, hok, hw, ?_, ?_, ?_, ?_, ?_, fun j j1 j2 => ?_, fun j hj => ?_, insK_nodup h.rowN hnr, by omega⟩
  · simp [hf, h.fr]
  · simp [hl, h.fr, h.len]; omega
  · rw [hg 1 _ g1 rfl, er2 _ (by omega)]; simp; omega
  · rw [hg 2 _ g2 rfl]
    have e : row.erase (4 + (m : Int)) = row := List.erase_of_not_mem hnr
    simp [e]; omega
  · rw [hg 3 _ g3 rfl]
    have e : rowb.erase (4 + (m : Int)) = rowb := List.erase_of_not_mem hnb
    simp [e]; omega
  · by_cases e : j = 4 + (m : Int)
    · subst e
      refine ⟨key, ?_⟩
      subst hz
      rw [hg _ _ gn rfl]
      simp [insK_mem]; omega
    · obtain ⟨k2, hk⟩ := h.kid j j1 (by omega)
      have gj : nd d1 j = _ := (hn.get j).trans ((if_neg e).trans hk)
      refine ⟨k2, ?_⟩
      rw [hg j _ gj rfl]
      have e1 : ¬ j = 2 := by omega
      simp only [e1, if_false, insK_mem, e, false_or]
      rfl
  · rcases insK_mem.1 hj with rfl | hj
    · omega
    · have := h.rowR j hj; omega
end Pr
end Go.Ev


namespace Go.Ev
namespace Pr
set_option linter.unusedVariables false
set_option linter.unusedSimpArgs false

theorem cut_lo {α : Type} {l : List α} {k : Int} (h0 : 0 ≤ k) (h1 : k ≤ l.length) : cut l 0 k = some (l.take k.toNat) := by
  unfold cut; rw [if_pos ⟨by omega, h0, h1⟩]; rfl
theorem cut_hi {α : Type} {l : List α} {k : Int} (h0 : 0 ≤ k) (h1 : k ≤ l.length) : cut l k (l.length : Int) = some (l.drop k.toNat) := by
  unfold cut; rw [if_pos ⟨h0, h1, by omega⟩, Int.toNat_natCast, List.take_length]
theorem insK_in {l : List Int} {k c : Int} (h0 : 0 ≤ k) (h1 : k ≤ l.length) : insK l k c = l.take k.toNat ++ c :: l.drop k.toNat := by
  unfold insK clampK
  rw [show (max 0 (min k (l.length : Int))) = k by omega]
theorem Two.rowLen {d : dom_Dom} {row rowb : List Int} {m : Nat} (h : Two d row rowb m) : row.length ≤ 5000 := kids_len h.wf h.a rfl
theorem Two.count {d : dom_Dom} {row rowb : List Int} {m : Nat} (h : Two d row rowb m) (n : Nat) : dom_Dom_Count n d = some (3 + (m : Int)) := by
  rw [count_ok h.wf, h.fr, h.len]; simp
theorem Two.loose {d : dom_Dom} {row rowb : List Int} {m : Nat} (h : Two d row rowb m) : looseL d = [] := by
  refine List.eq_nil_iff_forall_not_mem.2 (fun i hi => ?_)
  obtain ⟨z, hz, hl, hp, hne⟩ := looseL_mem.1 hi
  have hr := nd_range hz
  rw [h.len] at hr
  by_cases h3 : 4 ≤ i
  · obtain ⟨k, hk⟩ := h.kid i h3 (by omega)
    rw [hk] at hz; cases hz
    simp only at hp
    split at hp <;> omega
  · have : i = 2 ∨ i = 3 := by omega
    rcases this with rfl | rfl
    · rw [h.a] at hz; cases hz; simp at hp
    · rw [h.b] at hz; cases hz; simp at hp

section
variable {n : Nat} (hn : 6000 ≤ n)
include hn
theorem l215_ok {m : Nat} {z16 z23 : Int × dom_Dom} (h16 : z16.1 = 2) (h23 : z23.1 = 3) (x : List Int) : ∀ (rest done : List Int) (d : dom_Dom) (rowb : List Int) (f : Nat), x = done ++ rest → Two d rest rowb m → rowb.length = done.length → rest.length < f → x.length ≤ 5000 →
    porticolaw12_DomMoves_l215 n z16 z23 (3 + (m : Int)) x f d (done.length : Int) = some true
  | [], done, d, rowb, f + 1, hx, h, hb, hf, hl => by
    rw [porticolaw12_DomMoves_l215, if_neg (by subst hx; simp), h.count, Option.bind_some, if_pos (by simp), kids_ok h.wf, Option.bind_some, h.root]
    simp only [if_true]
    rw [h16, h23, sint_ok n _ _ (by simp; omega) (by simp), Option.bind_some, if_pos (by simp), loose_ok h.wf (by omega), Option.bind_some, h.loose]
    rfl
  | i :: rest, done, d, rowb, f + 1, hx, h, hb, hf, hl => by
    have hd : done.length < x.length := by subst hx; simp
    obtain ⟨r1, r2⟩ := h.rowR i List.mem_cons_self
    rw [porticolaw12_DomMoves_l215, if_pos (by rw [decide_eq_true_eq]; omega), idx_mid hx, Option.bind_some, h23, insert_ok h.wf hn, Option.bind_some, if_pos (h.okB r1 r2)]
    have h2 := h.moveB
    simp only [Bool.not_true, Bool.false_eq_true, if_false]
    rw [h16, kids_ok h2.wf, kids_ok h2.wf, h2.a, h2.b]
    simp only [Option.bind_some, if_true]
    have hxl : x.length = done.length + 1 + rest.length := by subst hx; simp; omega
    rw [w64 (n := (x.length : Int) - 1) (by omega) (by omega), w64 (by omega) (by omega), w64 (by omega) (by omega)]
    rw [if_neg (by simp; omega), if_neg (by simp; omega)]
    have := l215_ok h16 h23 x rest (done ++ [i]) _ (i :: rowb) f (by rw [hx]; simp) h2 (by simp [hb]) (by simpa using hf) hl
    simpa using this
theorem l130_ok {m : Nat} {z16 z23 : Int × dom_Dom} (h16 : z16.1 = 2) (h23 : z23.1 = 3) (a2 a3 : List Int) : ∀ (j : Nat) (d : dom_Dom) (row : List Int) (i : Int) (f : Nat), Two d row [] m → 0 ≤ i → i + (j : Int) = 12 → j < f → porticolaw12_DomMoves_l130 n a2 a3 z16 z23 (3 + (m : Int)) f d row i = some true
  | j, d, row, i, 0, h, h0, hj, hf => by omega
  | j, d, row, i, f + 1, h, h0, hj, hf => by
    rw [porticolaw12_DomMoves_l130]
    by_cases hc : i < a2.length ∧ i < a3.length ∧ i < 12 ∧ 0 < row.length
    rotate_left 1
    · rw [if_neg (by simp only [Bool.and_eq_true, decide_eq_true_eq]; omega)]
      have := l215_ok hn h16 h23 row row [] d [] n rfl h rfl (by have := h.rowLen; omega) h.rowLen
      simpa using this
    obtain ⟨c1, c2, c3, c4⟩ := hc
    rw [if_pos (by simp only [Bool.and_eq_true, decide_eq_true_eq]; omega)]
    have hrl := h.rowLen
    obtain ⟨x, hx, _⟩ := idx_in a2 h0 c1
    obtain ⟨y, hy, _⟩ := idx_in a3 h0 c2
    rw [hx, Option.bind_some, w64 (n := (row.length : Int) - 1) (by omega) (by omega)]
    obtain ⟨q, hq, q1, q2⟩ := within_ok n x 0 ((row.length : Int) - 1) (by omega) (by omega) (by omega)
    rw [hq, Option.bind_some]
    obtain ⟨id, hid, hm, hget⟩ := idx_in row q1 (by omega)
    rw [hid, Option.bind_some, cut_lo q1 (by omega), Option.bind_some, w64 (n := q + 1) (by omega) (by omega), cut_hi (by omega) (by omega), Option.bind_some]
    rw [app_ok (by rw [bnd]; simp; omega), Option.bind_some, app_ok (by rw [bnd]; simp; omega), Option.bind_some, hy, Option.bind_some]
    -- the row without it
    have herase : ([] ++ row.take q.toNat) ++ row.drop (q + 1).toNat = row.erase id := by
      have hi : row.idxOf id = q.toNat := by
        obtain ⟨hlt, he⟩ := List.getElem?_eq_some_iff.1 hget
        rw [← he]; exact List.Nodup.idxOf_getElem h.rowN _ hlt
      rw [List.erase_eq_eraseIdx_of_idxOf hi, List.eraseIdx_eq_take_drop_succ, List.nil_append, show (q + 1).toNat = q.toNat + 1 by omega]
    rw [herase]
    have hel : (row.erase id).length ≤ 5000 := Nat.le_trans (List.length_erase_le) hrl
    obtain ⟨t, ht, t1, t2⟩ := within_ok n y 0 ((row.erase id).length : Int) (by omega) (by omega) (by omega)
    obtain ⟨r1, r2⟩ := h.rowR id hm
    rw [ht, Option.bind_some, h16, insert_ok h.wf hn, Option.bind_some, if_pos (h.okA r1 r2)]
    simp only [Bool.not_true, Bool.false_eq_true, if_false]
    rw [cut_lo t1 t2, Option.bind_some, cut_hi t1 t2, Option.bind_some, app_ok (by rw [bnd]; simp; omega), Option.bind_some, app_ok (by rw [bnd]; simp; omega), Option.bind_some, app_ok (by rw [bnd]; simp; omega), Option.bind_some]
    have hins : (([] ++ (row.erase id).take t.toNat) ++ [id]) ++ (row.erase id).drop t.toNat = insK (row.erase id) t id := by rw [insK_in t1 t2]; simp
    rw [hins]
    have h2 := h.moveA hm t
    rw [kids_ok h2.wf, h2.a]
    simp only [Option.bind_some, if_true]
    have hl2 := h2.rowLen
    rw [sint_ok n _ _ (by omega) (by omega), Option.bind_some, if_neg (by simp), parent_ok h2.wf]
    obtain ⟨key, hk⟩ := h2.kid id r1 r2
    rw [hk]
    simp only [if_true, Option.bind_some]
    rw [if_pos (insK_mem.2 (.inl rfl)), if_neg (by simp), w64 (by omega) (by omega)]
    cases j with
    | zero => omega
    | succ j => exact l130_ok h16 h23 a2 a3 j _ _ (i + 1) f h2 (by omega) (by omega) (by omega)
theorem l64_ok {z16 z23 : Int × dom_Dom} (h16 : z16.1 = 2) (h23 : z23.1 = 3) (a1 a2 a3 : List Int) : ∀ (j m : Nat) (d : dom_Dom) (row : List Int) (f : Nat), Two d row [] m → m + j = 8 → j < f → porticolaw12_DomMoves_l64 n a1 a2 a3 z16 z23 f d row (m : Int) = some true
  | j, m, d, row, 0, h, hj, hf => by omega
  | j, m, d, row, f + 1, h, hj, hf => by
    rw [porticolaw12_DomMoves_l64]
    by_cases hc : (m : Int) < a1.length ∧ m < 8
    rotate_left 1
    · rw [if_neg (by simp only [Bool.and_eq_true, decide_eq_true_eq]; omega), h.count, Option.bind_some]
      exact l130_ok hn h16 h23 a2 a3 12 d row 0 n h (by omega) (by omega) (by omega)
    obtain ⟨c1, c2⟩ := hc
    rw [if_pos (by simp only [Bool.and_eq_true, decide_eq_true_eq]; omega)]
    have hrl := h.rowLen
    obtain ⟨d1, e1, e2, e3, e4, e5⟩ := element_ok h.wf (by rw [h.len]; omega) n (tag := [107]) (key := ([(IntKind.wrap .u8 (IntKind.wrap .i64 (48 + (m : Int))))]).map fun (n : Int) => UInt8.ofNat n.toNat) (by simp)
    rw [e1, Option.bind_some]
    obtain ⟨x, hx, _⟩ := idx_in a1 (i := (m : Int)) (by omega) c1
    rw [hx, Option.bind_some]
    obtain ⟨q, hq, q1, q2⟩ := within_ok n x 0 (row.length : Int) (by omega) (by omega) (by omega)
    rw [hq, Option.bind_some]
    obtain ⟨g1, g2, g3⟩ := h.newA c2 rfl e2 e3 e4 e5 q
    simp only
    rw [h16, insert_ok e2 hn, Option.bind_some, if_pos g2]
    simp only [Bool.not_true, Bool.false_eq_true, if_false]
    rw [cut_lo q1 q2, Option.bind_some, cut_hi q1 q2, Option.bind_some, app_ok (by rw [bnd]; simp; omega), Option.bind_some, app_ok (by rw [bnd]; simp; omega), Option.bind_some, app_ok (by rw [bnd]; simp; omega), Option.bind_some]
    have hins : (([] ++ row.take q.toNat) ++ [nextId d]) ++ row.drop q.toNat = insK row q (nextId d) := by rw [insK_in q1 q2]; simp
    rw [hins, w64 (by omega) (by omega)]
    cases j with
    | zero => omega
    | succ j =>
      have := l64_ok h16 h23 a1 a2 a3 j (m + 1) _ _ f g3 (by omega) (by omega)
      simpa using this
end
/-- The two parents stand in the root. -/
theorem two_start {n : Nat} (hn : 6000 ≤ n) : ∃ z16 z23 d0 d, dom_Dom_Element n dom0 [97] [] = some z16 ∧ dom_Dom_Element n z16.2 [98] [] = some z23 ∧ dom_Dom_Insert n z23.2 1 z16.1 0 = some (true, d0) ∧ dom_Dom_Insert n d0 1 z23.1 9 = some (true, d) ∧ z16.1 = 2 ∧ z23.1 = 3 ∧ Two d [] [] 0 := by
  obtain ⟨d1, a1, a2, a3, a4, a5⟩ := element_ok dom0_wf (by decide) n (tag := [97]) (key := []) (by simp)
  have i1 : nextId dom0 = 2 := rfl
  rw [i1] at a1 a3
  have l1 : d1.l.length = 2 := a5
  have f1 : d1.freed = [] := a4
  obtain ⟨d2, b1, b2, b3, b4, b5⟩ := element_ok a2 (by omega) n (tag := [98]) (key := []) (by simp)
  have i2 : nextId d1 = 3 := by unfold nextId; rw [f1]; simp [l1]
  rw [i2] at b1 b3
  have l2 : d2.l.length = 3 := by rw [b5, f1]; simp [l1]
  have f2 : d2.freed = [] := by rw [b4, f1]; rfl
  have g1 : nd d2 1 = some rootN := by rw [b3.get, if_neg (by omega), a3.get, if_neg (by omega)]; rfl
  have g2 : nd d2 2 = some (dom_node.mk true [97] [] [] [] [] 0) := by rw [b3.get, if_neg (by omega), a3.get, if_pos rfl]
  have g3 : nd d2 3 = some (dom_node.mk true [98] [] [] [] [] 0) := by rw [b3.get, if_pos rfl]
  have ok2 : insOk d2 1 2 = true := by
    unfold insOk
    have ht : tagOf d2 1 = rootN.tag := by unfold tagOf; rw [g1]
    have hp : Path d2 1 [1] := .top g1 rfl rfl
    rw [lvb_of g1, lvb_of g2, ht, hp.of]; decide
  obtain ⟨w3, h3⟩ := ins_wf b2 0 ok2
  have k1 := h3 1 _ g1 rfl
  have k2 := h3 2 _ g2 rfl
  have k3 := h3 3 _ g3 rfl
  have ok3 : insOk (dlink (dleave d2 2) 1 2 0) 1 3 = true := by
    unfold insOk
    have ht : tagOf (dlink (dleave d2 2) 1 2 0) 1 = rootN.tag := by unfold tagOf; rw [k1]
    have hp : Path (dlink (dleave d2 2) 1 2 0) 1 [1] := .top k1 rfl rfl
    rw [lvb_of k1, lvb_of k3, ht, hp.of]; decide
  obtain ⟨w4, h4⟩ := ins_wf w3 9 ok3
  have m1 := h4 1 _ k1 rfl
  have m2 := h4 2 _ k2 rfl
  have m3 := h4 3 _ k3 rfl
  refine ⟨_, _, _, _, a1, b1, by rw [insert_ok b2 hn, if_pos ok2], by rw [insert_ok w3 hn, if_pos ok3], rfl, rfl, w4, ?_, ?_, ?_, ?_, ?_, fun i h1 h2 => by omega, (by simp), (by simp), by omega⟩
  · simp [f2]
  · simp [l2]
  · rw [m1]; rfl
  · rw [m2]; rfl
  · rw [m3]; rfl
theorem domMoves_ok (a1 a2 a3 : List Int) : porticolaw12_DomMoves 10000 a1 a2 a3 = some true := by
  unfold porticolaw12_DomMoves
  rw [new_eq, Option.bind_some]
  obtain ⟨z16, z23, d0, d, e1, e2, e3, e4, h16, h23, h⟩ := two_start (n := 10000) (by omega)
  simp only [optB]
  rw [e1, Option.bind_some, e2, Option.bind_some, e3, Option.bind_some]
  simp only [Bool.not_true, Bool.false_eq_true, if_false]
  rw [e4, Option.bind_some]
  simp only [Bool.not_true, Bool.false_eq_true, if_false]
  exact l64_ok (n := 10000) (by omega) h16 h23 a1 a2 a3 8 0 d [] 10000 h rfl (by omega)
end Pr
end Go.Ev


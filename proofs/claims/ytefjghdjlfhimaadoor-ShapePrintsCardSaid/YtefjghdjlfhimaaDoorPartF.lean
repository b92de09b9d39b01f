import Derived.Test.YtefjghdjlfhimaaDoorPartE
namespace Go.Ev
namespace Pr
set_option linter.unusedVariables false
set_option linter.unusedSimpArgs false

/-! ### Right trees -/
def letters : Str := [97, 98, 99, 100, 101, 102, 103, 104, 105, 106, 107, 108, 109, 110, 111, 112, 113, 114, 115, 116, 117, 118, 119, 120, 121, 122, 48, 49, 50, 51, 52, 53, 54, 55, 56, 57]
def tagOk (s : Str) : Bool := !(s == []) && decide (s.length ≤ 16) && (strings_Trim 0 s letters == some []) && !(s == [122, 122])
def attrsOk (l : List Attr) : Prop := l = [] ∨ ∃ a, l = [a] ∧ a.Name ≠ [] ∧ a.Name.length ≤ 64 ∧ a.Value.length ≤ 64
def nodeOk (t : Tree) : Prop := (t.Tag = [] ∧ t.Key = [] ∧ t.Attrs = [] ∧ t.Kids = [] ∧ t.Text.length ≤ 64) ∨ (tagOk t.Tag = true ∧ t.Text = [] ∧ t.Key.length ≤ 64 ∧ attrsOk t.Attrs ∧ t.Kids.length ≤ 24)
def tgood : Tree → Prop
  | .mk a b c d e => nodeOk (.mk a b c d e) ∧ lg e
  where lg : List Tree → Prop
  | [] => True
  | x :: l => tgood x ∧ lg l
theorem tgood_iff (t : Tree) : tgood t ↔ nodeOk t ∧ tgood.lg t.Kids := by cases t; rw [tgood]; rfl
theorem lg_mem : ∀ {l : List Tree}, tgood.lg l ↔ ∀ z ∈ l, tgood z
  | [] => ⟨fun _ z h => (by cases h), fun _ => trivial⟩
  | x :: l => by
    rw [tgood.lg, lg_mem]
    exact ⟨fun h z hz => by rcases List.mem_cons.1 hz with rfl | hz; exact h.1; exact h.2 z hz, fun h => ⟨h x List.mem_cons_self, fun z hz => h z (List.mem_cons_of_mem _ hz)⟩⟩
theorem tsz_le : ∀ (m : Nat) (t : Tree), tcnt t ≤ m → tgood t → tsz t ≤ 2 * tcnt t
  | 0, t, h, _ => by rw [tcnt_kids] at h; omega
  | m + 1, t, h, hg => by
    obtain ⟨h1, h2⟩ := (tgood_iff t).1 hg
    have hl : ∀ (l : List Tree), (∀ z ∈ l, z ∈ t.Kids) → tsz.lsz l ≤ 2 * lcnt l := by
      intro l
      induction l with
      | nil => intro _; simp [tsz.lsz, lcnt]
      | cons x l ih =>
        intro hm
        have hx := hm x List.mem_cons_self
        have := tsz_le m x (by have := lcnt_mem' hx; omega) (lg_mem.1 h2 x hx)
        have := ih (fun z hz => hm z (List.mem_cons_of_mem _ hz))
        simp only [tsz.lsz, lcnt]; omega
    have ha : t.Attrs.length ≤ 1 := by
      rcases h1 with h1 | h1
      · rw [h1.2.2.1]; simp
      · rcases h1.2.2.2.1 with h | ⟨a, h, _⟩ <;> rw [h] <;> simp
    have := hl t.Kids (fun z hz => hz)
    rw [tsz_kids, tcnt_kids]; omega

theorem element_ok (n : Nat) (hn : 5 ≤ n) (t : Tree) (h1 : tagOk t.Tag = true) (h2 : t.Text = []) (h3 : t.Key.length ≤ 64) (h4 : attrsOk t.Attrs) (h5 : t.Kids.length ≤ 24) : shape_element n t = some true := by
  simp only [tagOk, Bool.and_eq_true, Bool.not_eq_true', decide_eq_true_eq] at h1
  obtain ⟨⟨⟨g1, g2⟩, g3⟩, _⟩ := h1
  have g3 := eq_of_beq g3
  unfold shape_element
  rw [if_neg (by rw [decide_eq_true_eq]; omega)]
  have : strings_Trim n t.Tag [97, 98, 99, 100, 101, 102, 103, 104, 105, 106, 107, 108, 109, 110, 111, 112, 113, 114, 115, 116, 117, 118, 119, 120, 121, 122, 48, 49, 50, 51, 52, 53, 54, 55, 56, 57] = some [] := g3
  rw [this, Option.bind_some, Option.bind_some]
  rw [h2]
  rw [if_neg (by simp; omega)]
  obtain ⟨k, rfl⟩ : ∃ k, n = k + 5 := ⟨n - 5, by omega⟩
  rcases h4 with h | ⟨a, h, a1, a2, a3⟩
  · rw [shape_element_l20, if_neg (by rw [h]; simp)]
  · rw [shape_element_l20, if_pos (by rw [h]; simp)]
    have e0 : idx t.Attrs 0 = some a := by rw [h]; rfl
    have e1 : cut t.Attrs 0 0 = some [] := by rw [h]; rfl
    rw [e0, Option.bind_some, if_neg (by simp [a1]; omega), e1, Option.bind_some]
    have e2 : slices_ContainsFunc__api_Attr_api_Attr_ (k + 5) [] (fun y31 => shape_element_1 (k + 5) y31 a) = some false := by
      unfold slices_ContainsFunc__api_Attr_api_Attr_ slices_IndexFunc__api_Attr_api_Attr_
      rw [slices_IndexFunc__api_Attr_api_Attr__l13, if_neg (by simp)]; rfl
    rw [e2, Option.bind_some, Option.bind_some, if_neg (by simp)]
    rw [shape_element_l20, if_neg (by rw [h, w64 (by omega) (by omega)]; simp)]
theorem right_loop (f : Tree → Option Bool) (t : Tree) (hf : ∀ x ∈ t.Kids, f x = some true) (hb : t.Kids.length < 1000000000) : ∀ (r d : List Tree) (k : Nat), t.Kids = d ++ r → r.length < k →
    shape_right_l19 f t k (d.length : Int) = some true
  | [], d, k + 1, hl, _ => by rw [shape_right_l19, if_neg (by rw [hl]; simp)]
  | z :: r, d, k + 1, hl, hk => by
    have hkl : t.Kids.length = d.length + r.length + 1 := by rw [hl]; simp; omega
    rw [shape_right_l19, if_pos (by rw [decide_eq_true_eq, hkl]; omega), idx_mid hl, Option.bind_some, hf z (by rw [hl]; simp), Option.bind_some, if_neg (by simp)]
    rw [w64 (by omega) (by omega)]
    have := right_loop f t hf hb r (d ++ [z]) k (by rw [hl]; simp) (by simp at hk; omega)
    rw [List.length_append, List.length_singleton] at this
    push_cast at this
    exact this
theorem right_ok : ∀ (m : Nat) (t : Tree), tcnt t ≤ m → tgood t → m < 1000000 → ∀ n, m + 30 < n → shape_right n t = some true
  | 0, t, h, _, _, n, _ => by rw [tcnt_kids] at h; omega
  | m + 1, t, h, hg, hm, n + 1, hn => by
    obtain ⟨h1, h2⟩ := (tgood_iff t).1 hg
    have hf : ∀ x ∈ t.Kids, shape_right n x = some true := fun x hx => right_ok m x (by have := lcnt_mem' hx; omega) (lg_mem.1 h2 x hx) (by omega) n (by omega)
    rw [shape_right]
    rcases h1 with ⟨a1, a2, a3, a4, a5⟩ | ⟨a1, a2, a3, a4, a5⟩
    · rw [if_pos (by simp [a1]), a2, a3, a4]; simp; omega
    · have hne : t.Tag ≠ [] := fun q => by rw [q] at a1; simp [tagOk] at a1
      rw [if_neg (by simp [hne]), element_ok n (by omega) t a1 a2 a3 a4 a5, Option.bind_some, if_neg (by simp)]
      have := right_loop (shape_right n) t hf (by omega) t.Kids [] n rfl (by omega)
      simp only [List.length_nil] at this
      exact this
theorem Right_ok (n : Nat) (t : Tree) (hn : 200 < n) (hc : tcnt t ≤ 100) (hg : tgood t) : shape_Right n t = some (decide (tcnt t ≤ 60) && decide (tdep t ≤ 12)) := by
  unfold shape_Right
  rw [right_ok 100 t hc hg (by omega) n (by omega), Option.bind_some, if_pos rfl, count_ok 100 t hc (by omega) n (by omega), Option.bind_some, Option.bind_some]
  by_cases h1 : tcnt t ≤ 60
  · rw [if_pos (by rw [decide_eq_true_eq]; omega), deep_ok 100 t hc (by omega) n (by omega), Option.bind_some, Option.bind_some]
    by_cases h2 : tdep t ≤ 12
    · simp [h1, h2]; omega
    · simp [h1, h2]; omega
  · rw [if_neg (by rw [decide_eq_true_eq]; omega)]; simp [h1]

/-! ### Numbers brought into bounds -/
theorem within_ok (n : Nat) (a lo hi : Int) (h1 : lo ≤ hi) (h2 : -1000000000000 ≤ lo) (h3 : hi ≤ 1000000000000000) : ∃ r, porticobook_Within n a lo hi = some r ∧ lo ≤ r ∧ r ≤ hi := by
  unfold porticobook_Within
  rw [w64 (n := hi - lo) (by omega) (by omega), w64 (by omega) (by omega), remI_ok (by omega), Option.bind_some]
  have k1 := Int.tmod_lt_of_pos a (show 0 < hi - lo + 1 by omega)
  have k2 := Int.lt_tmod_of_pos a (show 0 < hi - lo + 1 by omega)
  unfold porticobook_Within_j8
  by_cases hz : a.tmod (hi - lo + 1) < 0
  · rw [if_pos (by simpa using hz)]
    rw [w64 (n := a.tmod (hi - lo + 1) + hi) (by omega) (by omega), w64 (n := a.tmod (hi - lo + 1) + hi - lo) (by omega) (by omega), w64 (n := a.tmod (hi - lo + 1) + hi - lo + 1) (by omega) (by omega), w64 (by omega) (by omega)]
    exact ⟨_, rfl, by omega, by omega⟩
  · rw [if_neg (by simpa using hz), w64 (by omega) (by omega)]
    exact ⟨_, rfl, by omega, by omega⟩
theorem pick_ok (n : Nat) (l : List Int) (i : Int) (h : 0 ≤ i) : ∃ r, porticokeep_pick n l i = some r := by
  unfold porticokeep_pick
  by_cases h0 : l.length = 0
  · rw [if_pos (by simp; exact List.eq_nil_of_length_eq_zero h0)]; exact ⟨_, rfl⟩
  · rw [if_neg (by simp; intro q; exact h0 (by rw [q]; rfl)), remI_ok (by omega), Option.bind_some]
    have hp : (0 : Int) < (l.length : Int) := by omega
    obtain ⟨x, hx, _⟩ := idx_in l (i := i.tmod l.length) (Int.tmod_nonneg _ h) (Int.tmod_lt_of_pos _ hp)
    exact ⟨x, by rw [hx]; rfl⟩
end Pr
end Go.Ev


namespace Go.Ev
namespace Pr
set_option linter.unusedVariables false
set_option linter.unusedSimpArgs false

/-! ### A tree out of a row of nodes -/
def n0ok (t : Tree0) : Prop := (t.Tag = [] ∧ t.Key = [] ∧ t.Attrs = [] ∧ t.Text.length ≤ 64) ∨ (tagOk t.Tag = true ∧ t.Text = [] ∧ t.Key.length ≤ 64 ∧ attrsOk t.Attrs)

/-- Nodes that stand below one another, each behind its parent; how deep each is. -/
structure Wd (nodes : List Tree0) (under : List Int) (lv : List Nat) : Prop where
  lu : under.length = nodes.length
  ll : lv.length = nodes.length
  pos : 0 < nodes.length
  le : nodes.length ≤ 13
  ok : ∀ (j : Nat) (t : Tree0), nodes[j]? = some t → n0ok t
  root : under[0]? = some (-1) ∧ lv[0]? = some 1
  par : ∀ (j : Nat), 0 < j → j < nodes.length → ∃ (p : Nat) (t : Tree0) (v : Nat), under[j]? = some (p : Int) ∧ p < j ∧ nodes[p]? = some t ∧ t.Tag ≠ [] ∧ lv[p]? = some v ∧ lv[j]? = some (v + 1)
  lim : ∀ (j v : Nat), lv[j]? = some v → v ≤ 7 ∧ 1 ≤ v

section
variable {nodes : List Tree0} {under : List Int} {lv : List Nat}

theorem deep_at (h : Wd nodes under lv) : ∀ (m j v : Nat), j ≤ m → lv[j]? = some v → ∀ (k : Nat) (acc : Int), v + 1 < k → 0 ≤ acc → acc + v ≤ 60 → porticokeep_deep_l13 under k (j : Int) acc = some (acc + v)
  | m, 0, v, _, hv, k + 2, acc, hk, h0, h1 => by
    have hr := h.root
    rw [hr.2] at hv; cases hv
    rw [porticokeep_deep_l13, if_pos (by simp; omega)]
    have : idx under ((0 : Nat) : Int) = some (-1) := by rw [idx_nat]; exact hr.1
    rw [this, Option.bind_some, w64 (by omega) (by omega), porticokeep_deep_l13, if_neg (by simp)]
    rfl
  | m + 1, j + 1, v, hj, hv, k + 1, acc, hk, h0, h1 => by
    have hjl : j + 1 < nodes.length := by
      have := (List.getElem?_eq_some_iff.1 hv).1
      rw [h.ll] at this; exact this
    obtain ⟨p, t, v', hu, hp, _, _, hvp, hvj⟩ := h.par (j + 1) (by omega) hjl
    rw [hv] at hvj; cases hvj
    have hl := (h.lim (j + 1) (v' + 1) hv).1
    rw [porticokeep_deep_l13, if_pos (by simp; omega)]
    have : idx under ((j + 1 : Nat) : Int) = some (p : Int) := by rw [idx_nat]; exact hu
    rw [this, Option.bind_some, w64 (by omega) (by omega)]
    rw [deep_at h m p v' (by omega) hvp k (acc + 1) (by omega) (by omega) (by omega)]
    congr 1
    push_cast; omega
  | m, 0, v, _, hv, 1, acc, hk, _, _ => by omega
theorem deep0_ok (h : Wd nodes under lv) (n : Nat) (hn : 20 < n) {j v : Nat} (hv : lv[j]? = some v) : porticokeep_deep n under (j : Int) = some (v : Int) := by
  have hl := (h.lim j v hv).1
  unfold porticokeep_deep
  rw [deep_at h j j v (Nat.le_refl _) hv n 0 (by omega) (by omega) (by omega)]
  simp

/-- The kids of a node, from a place on. -/
def kidsF (under : List Int) (at_ : Nat) (l : List Nat) : List Nat := l.filter fun j => under[j]? == some (at_ : Int)
def growP (nodes : List Tree0) (under : List Int) : Nat → Nat → Tree
  | 0, _ => .mk [] [] [] [] []
  | f + 1, j => match nodes[j]? with
    | some t => .mk t.Tag t.Key t.Text t.Attrs ((kidsF under j (List.range nodes.length)).map (growP nodes under f))
    | none => .mk [] [] [] [] []
theorem kids_gt (h : Wd nodes under lv) {j i : Nat} {l : List Nat} (hi : i ∈ kidsF under j l) : i < nodes.length ∧ j < i ∧ ∃ v, lv[j]? = some v ∧ lv[i]? = some (v + 1) ∧ ∃ t, nodes[j]? = some t ∧ t.Tag ≠ [] := by
  obtain ⟨_, h2⟩ := List.mem_filter.1 hi
  have h2 := eq_of_beq h2
  have hil : i < nodes.length := by rw [← h.lu]; exact (List.getElem?_eq_some_iff.1 h2).1
  cases i with
  | zero => rw [h.root.1] at h2; cases h2
  | succ i =>
    obtain ⟨p, t, v, hu, hp, ht, htg, hvp, hvj⟩ := h.par (i + 1) (by omega) hil
    rw [hu] at h2
    have : p = j := by have := Option.some.inj h2; omega
    subst this
    exact ⟨hil, hp, v, hvp, hvj, t, ht, htg⟩
theorem growP_st (h : Wd nodes under lv) : ∀ (f g j : Nat), j < nodes.length → nodes.length ≤ j + f → nodes.length ≤ j + g → growP nodes under f j = growP nodes under g j
  | 0, g, j, hj, hf, _ => by omega
  | f + 1, 0, j, hj, _, hg => by omega
  | f + 1, g + 1, j, hj, hf, hg => by
    rw [growP, growP]
    split
    · congr 1
      apply List.map_congr_left
      intro i hi
      obtain ⟨h1, h2, _⟩ := kids_gt h hi
      exact growP_st h f g i h1 (by omega) (by omega)
    · rfl
def gt (nodes : List Tree0) (under : List Int) (j : Nat) : Tree := growP nodes under (nodes.length + 1) j
theorem gt_eq (h : Wd nodes under lv) {j : Nat} {t : Tree0} (ht : nodes[j]? = some t) : gt nodes under j = .mk t.Tag t.Key t.Text t.Attrs ((kidsF under j (List.range nodes.length)).map (gt nodes under)) := by
  unfold gt
  rw [growP]
  simp only [ht]
  congr 1
  apply List.map_congr_left
  intro i hi
  obtain ⟨h1, h2, _⟩ := kids_gt h hi
  exact growP_st h _ _ i h1 (by omega) (by omega)

theorem grow_loop (h : Wd nodes under lv) (self : List Tree0 → List Int → Int → Option Tree) (j : Nat) (z : Tree0) (hs : ∀ i, i < nodes.length → j < i → self nodes under (i : Int) = some (gt nodes under i)) : ∀ (m i k : Nat) (acc : List Tree), nodes.length = i + m → m < k → acc.length ≤ i →
    porticokeep_grow_l25 self nodes under (j : Int) z k acc (i : Int) = some (.mk z.Tag z.Key z.Text z.Attrs (acc ++ (kidsF under j (List.range' i m)).map (gt nodes under)))
  | 0, i, k + 1, acc, hm, _, _ => by
    rw [porticokeep_grow_l25, if_neg (by rw [hm]; simp)]
    simp [kidsF]
  | m + 1, i, k + 1, acc, hm, hk, ha => by
    have hle := h.le
    have hil : i < under.length := by rw [h.lu]; omega
    rw [porticokeep_grow_l25, if_pos (by rw [hm]; simp; omega), idx_nat, List.getElem?_eq_getElem hil, Option.bind_some]
    rw [List.range'_succ]
    by_cases hu : under[i] = (j : Int)
    · have hin : i ∈ kidsF under j [i] := by simp [kidsF, hil, hu]
      obtain ⟨g1, g2, _⟩ := kids_gt h hin
      rw [if_pos (by simpa using hu), hs i g1 g2, Option.bind_some, app_ok (by rw [bnd]; simp; omega), Option.bind_some]
      unfold porticokeep_grow_j31
      rw [w64 (by omega) (by omega)]
      have := grow_loop h self j z hs m (i + 1) k (acc ++ [gt nodes under i]) (by omega) (by omega) (by simp; omega)
      push_cast at this
      rw [this]
      have : kidsF under j (i :: List.range' (i + 1) m) = i :: kidsF under j (List.range' (i + 1) m) := by
        unfold kidsF; rw [List.filter_cons, if_pos (by simp [hil, hu])]
      rw [this]; simp
    · rw [if_neg (by simpa using hu)]
      unfold porticokeep_grow_j31
      rw [w64 (by omega) (by omega)]
      have := grow_loop h self j z hs m (i + 1) k acc (by omega) (by omega) (by omega)
      push_cast at this
      rw [this]
      have : kidsF under j (i :: List.range' (i + 1) m) = kidsF under j (List.range' (i + 1) m) := by
        unfold kidsF; rw [List.filter_cons, if_neg (by simp [hil, hu])]
      rw [this]
theorem grow_ok (h : Wd nodes under lv) : ∀ (n j : Nat), j < nodes.length → 2 * nodes.length + 2 ≤ j + n → porticokeep_grow n nodes under (j : Int) = some (gt nodes under j)
  | 0, j, hj, hn => by omega
  | n + 1, j, hj, hn => by
    rw [porticokeep_grow, idx_nat, List.getElem?_eq_getElem hj, Option.bind_some]
    have := grow_loop h (porticokeep_grow n) j nodes[j] (fun i hi hji => grow_ok h n i hi (by omega)) nodes.length 0 n [] (by omega) (by omega) (by simp)
    rw [show ((0 : Nat) : Int) = 0 from rfl] at this
    rw [this, gt_eq h (List.getElem?_eq_getElem hj), List.range_eq_range']
    rfl

/-! #### .. its depth, its size -/
theorem gt_good (h : Wd nodes under lv) : ∀ (m j v : Nat), nodes.length ≤ j + m → lv[j]? = some v → tgood (gt nodes under j) ∧ tdep (gt nodes under j) + v ≤ 8
  | 0, j, v, hm, hv => by
    have := (List.getElem?_eq_some_iff.1 hv).1
    rw [h.ll] at this; omega
  | m + 1, j, v, hm, hv => by
    have hj : j < nodes.length := by rw [← h.ll]; exact (List.getElem?_eq_some_iff.1 hv).1
    have ht := List.getElem?_eq_getElem hj
    have hv7 := h.lim j v hv
    rw [gt_eq h ht]
    have hk : ∀ i ∈ kidsF under j (List.range nodes.length), tgood (gt nodes under i) ∧ tdep (gt nodes under i) + (v + 1) ≤ 8 := fun i hi => by
      obtain ⟨g1, g2, v', g3, g4, _⟩ := kids_gt h hi
      rw [hv] at g3; cases g3
      exact gt_good h m i (v + 1) (by omega) g4
    have hlen : (kidsF under j (List.range nodes.length)).length ≤ 13 := by
      have := List.length_filter_le (fun i => under[i]? == some (j : Int)) (List.range nodes.length)
      rw [List.length_range] at this
      have := h.le
      unfold kidsF; omega
    refine ⟨(tgood_iff _).2 ⟨?_, ?_⟩, ?_⟩
    · rcases h.ok j _ ht with ⟨a1, a2, a3, a4⟩ | ⟨a1, a2, a3, a4⟩
      · refine .inl ⟨a1, a2, a3, ?_, a4⟩
        show List.map _ _ = []
        rw [List.map_eq_nil_iff]
        cases hq : kidsF under j (List.range nodes.length) with
        | nil => rfl
        | cons i l =>
          obtain ⟨_, _, _, _, _, t, q1, q2⟩ := kids_gt h (l := List.range nodes.length) (i := i) (j := j) (by rw [hq]; simp)
          rw [ht] at q1; cases q1
          exact absurd a1 q2
      · refine .inr ⟨a1, a2, a3, a4, ?_⟩
        show (List.map _ _).length ≤ 24
        rw [List.length_map]; omega
    · show tgood.lg (List.map _ _)
      rw [lg_mem]
      intro z hz
      obtain ⟨i, hi, rfl⟩ := List.mem_map.1 hz
      exact (hk i hi).1
    · rw [tdep]
      have : ∀ (l : List Nat), (∀ i ∈ l, tdep (gt nodes under i) + (v + 1) ≤ 8) → ldep (l.map (gt nodes under)) + (v + 1) ≤ 8 := by
        intro l
        induction l with
        | nil => intro _; simp only [List.map_nil, ldep]; omega
        | cons i l ih =>
          intro hl
          have h1 := hl i List.mem_cons_self
          have h2 := ih (fun i hi => hl i (List.mem_cons_of_mem _ hi))
          simp only [List.map_cons, ldep]; omega
      have := this _ (fun i hi => (hk i hi).2)
      omega

def sumIf (p : Nat → Bool) (f : Nat → Nat) : List Nat → Nat
  | [] => 0
  | i :: l => (if p i then f i else 0) + sumIf p f l
theorem sumIf_kids (f : Nat → Tree) (p : Nat → Bool) : ∀ (l : List Nat), lcnt ((l.filter p).map f) = sumIf p (fun i => tcnt (f i)) l
  | [] => rfl
  | i :: l => by
    rw [List.filter_cons, sumIf]
    by_cases h : p i = true
    · rw [if_pos h, if_pos h, List.map_cons, lcnt, sumIf_kids f p l]
    · rw [if_neg h, if_neg h, sumIf_kids f p l]; omega
theorem sumIf_split (f : Nat → Nat) (p q r : Nat → Bool) : ∀ (l : List Nat), (∀ i ∈ l, p i = (q i || r i) ∧ (q i && r i) = false) → sumIf p f l = sumIf q f l + sumIf r f l
  | [], _ => rfl
  | i :: l, h => by
    obtain ⟨h1, h2⟩ := h i List.mem_cons_self
    have ih := sumIf_split f p q r l (fun i hi => h i (List.mem_cons_of_mem _ hi))
    rw [sumIf, sumIf, sumIf, h1, ih]
    cases hq : q i <;> cases hr : r i <;> simp_all <;> omega
theorem sumIf_none (f : Nat → Nat) (p : Nat → Bool) : ∀ (l : List Nat), (∀ i ∈ l, p i = false) → sumIf p f l = 0
  | [], _ => rfl
  | i :: l, h => by
    rw [sumIf, h i List.mem_cons_self, sumIf_none f p l (fun i hi => h i (List.mem_cons_of_mem _ hi))]; simp
theorem sumIf_app (f : Nat → Nat) (p : Nat → Bool) : ∀ (l m : List Nat), sumIf p f (l ++ m) = sumIf p f l + sumIf p f m
  | [], m => by simp [sumIf]
  | i :: l, m => by rw [List.cons_append, sumIf, sumIf, sumIf_app f p l m]; omega
def ahead (under : List Int) (m : Nat) (j : Nat) : Bool := match under[j]? with
  | some u => decide (u < (m : Int))
  | none => false
theorem forest (h : Wd nodes under lv) : ∀ (d m : Nat), m + d = nodes.length → sumIf (ahead under m) (fun i => tcnt (gt nodes under i)) (List.range' m d) = d
  | 0, m, _ => rfl
  | d + 1, m, hm => by
    have ih := forest h d (m + 1) (by omega)
    have hml : m < nodes.length := by omega
    have hmu : m < under.length := by rw [h.lu]; exact hml
    rw [List.range'_succ, sumIf]
    have hself : ahead under m m = true := by
      unfold ahead
      cases m with
      | zero => rw [h.root.1]; rfl
      | succ m =>
        obtain ⟨p, _, _, hu, hp, _⟩ := h.par (m + 1) (by omega) hml
        rw [hu]; simp; omega
    rw [if_pos hself, gt_eq h (List.getElem?_eq_getElem hml), tcnt]
    unfold kidsF
    rw [sumIf_kids]
    have hr : List.range nodes.length = List.range' 0 (m + 1) ++ List.range' (m + 1) d := by
      have hq := List.range'_append_1 (s := 0) (m := m + 1) (n := d)
      rw [Nat.zero_add] at hq
      rw [List.range_eq_range', hq]
      congr 1; omega
    rw [hr, sumIf_app, sumIf_none _ _ (List.range' 0 (m + 1)) (fun i hi => ?_)]
    · have hsp := sumIf_split (fun i => tcnt (gt nodes under i)) (ahead under (m + 1)) (ahead under m) (fun j => under[j]? == some (m : Int)) (List.range' (m + 1) d) (fun i hi => ?_)
      · rw [hsp] at ih
        omega
      · have hil : i < under.length := by
          have := List.mem_range'_1.1 hi
          rw [h.lu]; omega
        unfold ahead
        rw [List.getElem?_eq_getElem hil]
        generalize under[i] = u
        simp only
        rcases Int.lt_trichotomy u (m : Int) with q | q | q
        · have q1 : u < ((m + 1 : Nat) : Int) := by omega
          have q2 : u ≠ (m : Int) := by omega
          simp only [q, q1, decide_true, Bool.true_or, Bool.true_and, true_and]
          simpa using q2
        · subst q
          have q1 : (m : Int) < ((m + 1 : Nat) : Int) := by omega
          have q2 : ¬ (m : Int) < (m : Int) := by omega
          simp only [q1, q2, decide_true, decide_false, Bool.false_or, Bool.false_and, and_true, beq_self_eq_true]
        · have q1 : ¬ u < ((m + 1 : Nat) : Int) := by omega
          have q2 : ¬ u < (m : Int) := by omega
          have q3 : u ≠ (m : Int) := by omega
          simp only [q1, q2, decide_false, Bool.false_or, Bool.false_and, and_true]
          symm; simpa using q3
    · cases hc : under[i]? == some (m : Int) with
      | false => rfl
      | true =>
        have him := List.mem_range'_1.1 hi
        obtain ⟨_, q, _⟩ := kids_gt h (l := [i]) (i := i) (j := m) (by simp [kidsF, hc])
        omega
theorem gt_cnt (h : Wd nodes under lv) : tcnt (gt nodes under 0) = nodes.length := by
  obtain ⟨d, hd⟩ : ∃ d, nodes.length = d + 1 := ⟨nodes.length - 1, by have := h.pos; omega⟩
  have := forest h nodes.length 0 (by omega)
  rw [hd, List.range'_succ, sumIf] at this
  have h0 : ahead under 0 0 = true := by unfold ahead; rw [h.root.1]; rfl
  rw [if_pos h0, sumIf_none _ _ _ (fun i hi => ?_)] at this
  · rw [hd]; omega
  · have hi' := List.mem_range'_1.1 hi
    obtain ⟨p, _, _, hu, _⟩ := h.par i (by omega) (by omega)
    unfold ahead
    rw [hu]; simp
end
end Pr
end Go.Ev


namespace Go.Ev
namespace Pr
set_option linter.unusedVariables false
set_option linter.unusedSimpArgs false

/-! ### A tree of numbers -/
def words : List Str := [[97], [98], [105, 116, 101, 109], [120, 32, 121], [37], [97, 47, 98], [46, 46], [122], [49], [108, 105, 115, 116], [255], [63, 61, 38]]
theorem words_len : ∀ w ∈ words, w.length ≤ 64 := by decide
theorem tags_ok : ∀ s ∈ ([[97], [98], [108, 105], [111, 117, 116, 108, 101, 116]] : List Str), tagOk s = true := by decide +kernel
theorem div_ok : tagOk [100, 105, 118] = true := by decide +kernel

section
variable {nodes : List Tree0} {under : List Int} {lv : List Nat}
theorem getElem?_push {α : Type} (l : List α) (x : α) (j : Nat) : (l ++ [x])[j]? = if j < l.length then l[j]? else if j = l.length then some x else none := by
  by_cases h : j < l.length
  · rw [if_pos h, List.getElem?_append_left h]
  · rw [if_neg h, List.getElem?_append_right (by omega)]
    by_cases h2 : j = l.length
    · rw [if_pos h2, h2]; simp
    · rw [if_neg h2]
      have : ∃ k, j - l.length = k + 1 := ⟨j - l.length - 1, by omega⟩
      obtain ⟨k, hk⟩ := this
      rw [hk]; rfl
theorem push_old {α : Type} {l : List α} {x y : α} {j : Nat} (h : l[j]? = some y) : (l ++ [x])[j]? = some y := by
  rw [List.getElem?_append_left (List.getElem?_eq_some_iff.1 h).1]; exact h
theorem wd_push (h : Wd nodes under lv) (hl : nodes.length ≤ 12) {t : Tree0} (ht : n0ok t) {p v : Nat} {tp : Tree0} (hp : nodes[p]? = some tp) (htp : tp.Tag ≠ []) (hv : lv[p]? = some v) (h6 : v ≤ 6) : Wd (nodes ++ [t]) (under ++ [(p : Int)]) (lv ++ [v + 1]) where
  lu := by simp [h.lu]
  ll := by simp [h.ll]
  pos := by simp
  le := by simp; omega
  ok := fun j u hu => by
    rw [getElem?_push] at hu
    split at hu
    · exact h.ok j u hu
    · split at hu
      · cases hu; exact ht
      · cases hu
  root := ⟨push_old h.root.1, push_old h.root.2⟩
  par := fun j h0 hj => by
    simp only [List.length_append, List.length_singleton] at hj
    by_cases hjl : j < nodes.length
    · obtain ⟨q, tq, vq, h1, h2, h3, h4, h5, h6⟩ := h.par j h0 hjl
      exact ⟨q, tq, vq, push_old h1, h2, push_old h3, h4, push_old h5, push_old h6⟩
    · have hj : j = nodes.length := by omega
      subst hj
      have hpl := (List.getElem?_eq_some_iff.1 hp).1
      refine ⟨p, tp, v, ?_, hpl, push_old hp, htp, push_old hv, ?_⟩
      · rw [getElem?_push, h.lu, if_neg (by omega), if_pos rfl]
      · rw [getElem?_push, h.ll, if_neg (by omega), if_pos rfl]
  lim := fun j w hw => by
    rw [getElem?_push] at hw
    split at hw
    · exact h.lim j w hw
    · split at hw
      · cases hw; omega
      · cases hw

/-- The root is an element. -/
def rootEl (nodes : List Tree0) : Prop := ∃ t, nodes[0]? = some t ∧ t.Tag = [100, 105, 118] ∧ t.Key = []

theorem j48_ok (h : Wd nodes under lv) (hr : rootEl nodes) (n : Nat) (hn : 20 < n) (hl : nodes.length ≤ 12) {i : Int} (again : List Tree0 → List Int → Int → Option Tree) {p : Nat} {tp : Tree0} (hp : nodes[p]? = some tp) (htp : tp.Tag ≠ []) (a b c : Str) (ats : List Attr) (ht : n0ok ⟨a, b, c, ats⟩) :
    ∃ (u : Int) (w : Nat), Wd (nodes ++ [⟨a, b, c, ats⟩]) (under ++ [u]) (lv ++ [w]) ∧ porticokeep_Wood_Tree_j48 n nodes under i again (p : Int) a b c ats = again (nodes ++ [⟨a, b, c, ats⟩]) (under ++ [u]) (IntKind.wrap .i64 (i + 1)) := by
  have hpl : p < lv.length := by rw [h.ll]; exact (List.getElem?_eq_some_iff.1 hp).1
  have hv := List.getElem?_eq_getElem hpl
  have key : ∀ (q : Nat) (u : Int), u = (q : Int) → porticokeep_Wood_Tree_j52 nodes under i again a b c ats u = again (nodes ++ [⟨a, b, c, ats⟩]) (under ++ [u]) (IntKind.wrap .i64 (i + 1)) := fun q u hu => by
    unfold porticokeep_Wood_Tree_j52
    rw [app_ok (by rw [bnd]; simp; omega), Option.bind_some, app_ok (by rw [bnd, h.lu]; simp; omega), Option.bind_some]
  unfold porticokeep_Wood_Tree_j48
  rw [deep0_ok h n hn hv, Option.bind_some]
  by_cases h6 : 6 < lv[p]
  · obtain ⟨t0, h1, h2, _⟩ := hr
    refine ⟨((0 : Nat) : Int), 2, wd_push h hl ht h1 (by rw [h2]; simp) h.root.2 (by omega), ?_⟩
    rw [if_pos (by rw [decide_eq_true_eq]; omega)]
    exact key 0 _ rfl
  · refine ⟨(p : Int), lv[p] + 1, wd_push h hl ht hp htp hv (by omega), ?_⟩
    rw [if_neg (by rw [decide_eq_true_eq]; omega)]
    exact key p _ rfl

theorem wlen : (words.length : Int) = 12 := rfl
theorem n0_tag {tag key : Str} (h1 : tag ∈ ([[97], [98], [108, 105], [111, 117, 116, 108, 101, 116]] : List Str)) (h2 : key.length ≤ 64) {ats : List Attr} (h3 : attrsOk ats) : n0ok ⟨tag, key, [], ats⟩ := .inr ⟨tags_ok tag h1, rfl, h2, h3⟩
theorem j72_ok (h : Wd nodes under lv) (hr : rootEl nodes) (n : Nat) (hn : 20 < n) (hl : nodes.length ≤ 12) (k : K_Wood) {i : Nat} (hi : i ≤ 20) (again : List Tree0 → List Int → Int → Option Tree) {p : Nat} {tp : Tree0} (hp : nodes[p]? = some tp) (htp : tp.Tag ≠ []) {tag key : Str} (h1 : tag ∈ ([[97], [98], [108, 105], [111, 117, 116, 108, 101, 116]] : List Str)) (h2 : key.length ≤ 64) :
    ∃ (t : Tree0) (u : Int) (w : Nat), Wd (nodes ++ [t]) (under ++ [u]) (lv ++ [w]) ∧ porticokeep_Wood_Tree_j72 n k words nodes under (i : Int) again (p : Int) tag key = again (nodes ++ [t]) (under ++ [u]) ((i + 1 : Nat) : Int) := by
  obtain ⟨r, hr1⟩ := pick_ok n k.Texts (i : Int) (by omega)
  unfold porticokeep_Wood_Tree_j72
  rw [hr1, Option.bind_some]
  by_cases hb : (andI .i64 r 1 == 1) = true
  · rw [if_pos hb, w64 (by omega) (by omega)]
    obtain ⟨r2, hr2⟩ := pick_ok n k.Texts ((i : Int) + 1) (by omega)
    rw [hr2, Option.bind_some, wlen, w64 (by omega) (by omega)]
    obtain ⟨q, q1, q2, q3⟩ := within_ok n r2 0 (12 - 1) (by omega) (by omega) (by omega)
    obtain ⟨w, w1, w2, _⟩ := idx_in words q2 (by rw [wlen]; omega)
    rw [q1, Option.bind_some, w1, Option.bind_some]
    obtain ⟨u, v, k1, k2⟩ := j48_ok h hr n hn hl (i := (i : Int)) again hp htp tag key [] [Attr.mk [120] w] (n0_tag h1 h2 (.inr ⟨_, rfl, by simp, by simp, words_len w w2⟩))
    rw [w64 (by omega) (by omega)] at k2
    exact ⟨_, u, v, k1, k2⟩
  · rw [if_neg hb]
    obtain ⟨u, v, k1, k2⟩ := j48_ok h hr n hn hl (i := (i : Int)) again hp htp tag key [] [] (n0_tag h1 h2 (.inl rfl))
    rw [w64 (by omega) (by omega)] at k2
    exact ⟨_, u, v, k1, k2⟩
theorem j33_ok (h : Wd nodes under lv) (hr : rootEl nodes) (n : Nat) (hn : 20 < n) (hl : nodes.length ≤ 12) (k : K_Wood) {i : Nat} (hi : i ≤ 20) (again : List Tree0 → List Int → Int → Option Tree) {p : Nat} {tp : Tree0} (hp : nodes[p]? = some tp) (htp : tp.Tag ≠ []) :
    ∃ (t : Tree0) (u : Int) (w : Nat), Wd (nodes ++ [t]) (under ++ [u]) (lv ++ [w]) ∧ porticokeep_Wood_Tree_j33 n k words nodes under (i : Int) again (p : Int) = again (nodes ++ [t]) (under ++ [u]) ((i + 1 : Nat) : Int) := by
  obtain ⟨r, hr1⟩ := pick_ok n k.Texts (i : Int) (by omega)
  obtain ⟨q, q1, q2, q3⟩ := within_ok n r 0 (12 - 1) (by omega) (by omega) (by omega)
  obtain ⟨w, w1, w2, _⟩ := idx_in words q2 (by rw [wlen]; omega)
  obtain ⟨r2, hr2⟩ := pick_ok n k.Kinds (i : Int) (by omega)
  obtain ⟨c, c1, c2, c3⟩ := within_ok n r2 0 5 (by omega) (by omega) (by omega)
  unfold porticokeep_Wood_Tree_j33
  rw [hr1, Option.bind_some, wlen, w64 (by omega) (by omega), q1, Option.bind_some, w1, Option.bind_some, hr2, Option.bind_some, c1, Option.bind_some]
  by_cases hc : c < 4
  · rw [if_pos (by rw [decide_eq_true_eq]; exact hc)]
    obtain ⟨tag, t1, t2, _⟩ := idx_in ([[97], [98], [108, 105], [111, 117, 116, 108, 101, 116]] : List Str) c2 (by simp; omega)
    obtain ⟨r3, hr3⟩ := pick_ok n k.Keys (i : Int) (by omega)
    obtain ⟨d, d1, d2, d3⟩ := within_ok n r3 0 6 (by omega) (by omega) (by omega)
    rw [t1, Option.bind_some, hr3, Option.bind_some, d1, Option.bind_some]
    by_cases hd : d < 4
    · rw [if_pos (by rw [decide_eq_true_eq]; exact hd)]
      exact j72_ok h hr n hn hl k hi again hp htp t2 (by simp)
    · rw [if_neg (by rw [decide_eq_true_eq]; exact hd)]
      exact j72_ok h hr n hn hl k hi again hp htp t2 (by simp)
  · rw [if_neg (by rw [decide_eq_true_eq]; exact hc)]
    obtain ⟨u, v, k1, k2⟩ := j48_ok h hr n hn hl (i := (i : Int)) again hp htp [] [] w [] (.inl ⟨rfl, rfl, rfl, words_len w w2⟩)
    rw [w64 (by omega) (by omega)] at k2
    exact ⟨_, u, v, k1, k2⟩
theorem wood_loop (n : Nat) (hn : 100 < n) (k : K_Wood) : ∀ (m i f : Nat) (nodes : List Tree0) (under : List Int) (lv : List Nat), Wd nodes under lv → rootEl nodes → nodes.length = i + 1 → i + m = 12 → m < f →
    ∃ nodes' under' lv', Wd nodes' under' lv' ∧ rootEl nodes' ∧ porticokeep_Wood_Tree_l25 n k words f nodes under (i : Int) = porticokeep_grow n nodes' under' 0
  | m, i, f + 1, nodes, under, lv, h, hr, hl, hm, hf => by
    rw [porticokeep_Wood_Tree_l25]
    by_cases hc : i < k.Under.length ∧ i < 12
    · obtain ⟨m, rfl⟩ : ∃ m', m = m' + 1 := ⟨m - 1, by omega⟩
      rw [if_pos (by simp; omega), idx_nat, List.getElem?_eq_getElem hc.1, Option.bind_some]
      rw [w64 (n := (nodes.length : Int) - 1) (by omega) (by omega)]
      obtain ⟨q, q1, q2, q3⟩ := within_ok n k.Under[i] 0 ((nodes.length : Int) - 1) (by omega) (by omega) (by omega)
      obtain ⟨t, t1, t2, t3⟩ := idx_in nodes q2 (by omega)
      rw [q1, Option.bind_some, t1, Option.bind_some]
      have go : ∀ (p : Nat) (tp : Tree0), nodes[p]? = some tp → tp.Tag ≠ [] → ∃ nodes' under' lv', Wd nodes' under' lv' ∧ rootEl nodes' ∧ porticokeep_Wood_Tree_j33 n k words nodes under (i : Int) (porticokeep_Wood_Tree_l25 n k words f) (p : Int) = porticokeep_grow n nodes' under' 0 := fun p tp hp htp => by
        obtain ⟨t', u, w, k1, k2⟩ := j33_ok (i := i) h hr n (by omega) (by omega) k (by omega) (porticokeep_Wood_Tree_l25 n k words f) hp htp
        have hr' : rootEl (nodes ++ [t']) := by
          obtain ⟨t0, h1, h2⟩ := hr
          exact ⟨t0, push_old h1, h2⟩
        obtain ⟨n', u', l', g1, g2, g3⟩ := wood_loop n hn k m (i + 1) f _ _ _ k1 hr' (by simp; omega) (by omega) (by omega)
        exact ⟨n', u', l', g1, g2, by rw [k2, g3]⟩
      by_cases hb : (t.Tag == []) = true
      · rw [if_pos hb]
        obtain ⟨t0, h1, h2, h3⟩ := hr
        exact go 0 t0 h1 (by rw [h2]; simp)
      · rw [if_neg hb]
        have hqn : q = (q.toNat : Int) := by omega
        rw [hqn]
        exact go q.toNat t t3 (by simpa using hb)
    · rw [if_neg (by simp; omega)]
      exact ⟨nodes, under, lv, h, hr, by cases porticokeep_grow n nodes under 0 <;> rfl⟩
end

/-- What a tree of numbers is. -/
theorem wood_ok (k : K_Wood) (n : Nat) (hn : 100 < n) : ∃ t, porticokeep_Wood_Tree n k = some t ∧ tgood t ∧ tcnt t ≤ 13 ∧ tdep t ≤ 7 ∧ t.Tag = [100, 105, 118] ∧ t.Key = [] := by
  have h0 : Wd [⟨[100, 105, 118], [], [], []⟩] [-1] [1] := by
    refine ⟨rfl, rfl, by simp, by simp, fun j t ht => ?_, ⟨rfl, rfl⟩, fun j h1 h2 => ?_, fun j v hv => ?_⟩
    · cases j with
      | zero => simp at ht; subst ht; exact .inr ⟨div_ok, rfl, by simp, .inl rfl⟩
      | succ j => simp at ht
    · simp at h2; omega
    · cases j with
      | zero => simp at hv; subst hv; omega
      | succ j => simp at hv
  obtain ⟨nodes, under, lv, h, hr, he⟩ := wood_loop n hn k 12 0 n _ _ _ h0 ⟨_, rfl, rfl, rfl⟩ rfl rfl (by omega)
  have hle := h.le
  have hg := gt_good h nodes.length 0 1 (by omega) h.root.2
  have hc := gt_cnt h
  obtain ⟨t0, r1, r2, r3⟩ := hr
  refine ⟨gt nodes under 0, ?_, hg.1, by rw [hc]; exact hle, by omega, by rw [gt_eq h r1]; exact r2, by rw [gt_eq h r1]; exact r3⟩
  unfold porticokeep_Wood_Tree porticokeep_Words
  rw [Option.bind_some]
  have := grow_ok h n 0 h.pos (by omega)
  rw [show ((0 : Nat) : Int) = 0 from rfl] at this he
  rw [← this, ← he]
  rfl
end Pr
end Go.Ev


namespace Go.Ev
namespace Pr
set_option linter.unusedVariables false
set_option linter.unusedSimpArgs false

/-! ### What a tree is printed as -/
def escC (c : UInt8) : Str := if c = 34 ∨ c = 92 then [92, c] else [c]
def esc : Str → Str
  | [] => []
  | c :: s => escC c ++ esc s
def sd (s : Str) : Str := [34] ++ (esc s ++ [34])
theorem escC_len (c : UInt8) : (escC c).length ≤ 2 := by unfold escC; split <;> simp
theorem esc_len : ∀ (s : Str), (esc s).length ≤ 2 * s.length
  | [] => by simp [esc]
  | c :: s => by
    have := esc_len s
    have := escC_len c
    simp only [esc, List.length_append, List.length_cons]; omega
theorem sd_len (s : Str) : (sd s).length ≤ 2 * s.length + 2 := by
  have := esc_len s
  simp only [sd, List.length_append, List.length_cons, List.length_nil]; omega
def prA : List Attr → Str
  | [] => []
  | a :: l => ([32] ++ sd a.Name ++ [61] ++ sd a.Value) ++ prA l
def prK (k : Str) : Str := if k = [] then [] else [35] ++ sd k
mutual
def pr : Tree → Str
  | .mk g k x a ks => if g = [] then sd x else ([60] ++ g) ++ prK k ++ prA a ++ [62] ++ prs ks ++ [60, 47, 62]
def prs : List Tree → Str
  | [] => []
  | t :: l => pr t ++ prs l
end
theorem pr_eq (t : Tree) : pr t = if t.Tag = [] then sd t.Text else ([60] ++ t.Tag) ++ prK t.Key ++ prA t.Attrs ++ [62] ++ prs t.Kids ++ [60, 47, 62] := by cases t; rw [pr]; rfl
theorem u8_nat (c : UInt8) : UInt8.ofNat ((c.toNat : Int)).toNat = c := by simp
theorem bldB_ok {s : Str} {c : Int} (h0 : 0 ≤ c) (h1 : c < 256) (h : s.length < 1000000000) : bldB s c = some (s ++ [UInt8.ofNat c.toNat]) := by
  unfold bldB; rw [if_pos ⟨h0, h1, by rw [bnd]; omega⟩]
theorem bldS_ok {s t : Str} (h : s.length < 1000000000) (h2 : t.length < 1000000000) : bldS s t = some (s ++ t) := by
  unfold bldS; rw [if_pos (by rw [bnd]; omega)]
theorem cat_ok {s t : Str} (h : s.length < 1000000000) (h2 : t.length < 1000000000) : cat s t = some (s ++ t) := by
  unfold cat; rw [if_pos (by omega)]
theorem said_loop (a : Str) (hl : a.length < 100000) : ∀ (rest done : Str) (k : Nat) (acc : Str), a = done ++ rest → rest.length < k → acc.length ≤ 1 + 2 * done.length →
    shape_said_l18 a k acc (done.length : Int) = some (acc ++ (esc rest ++ [34]))
  | [], done, k + 1, acc, h, hk, ha => by
    have : done.length < 1000000 := by rw [h] at hl; simp at hl; omega
    rw [shape_said_l18, if_neg (by rw [h]; simp), bldB_ok (by omega) (by omega) (by omega)]; rfl
  | c :: rest, done, k + 1, acc, h, hk, ha => by
    have hd : done.length < a.length := by rw [h]; simp
    have hc : c.toNat < 256 := c.toNat_lt
    rw [shape_said_l18, if_pos (by rw [decide_eq_true_eq]; omega), idx_mid h, Option.bind_some]
    have hz : ((if ((c.toNat : Int) == 34) = true then some true else ((some c).bind fun z29 => (some ((z29.toNat : Int) == 92)))) : Option Bool) = some (decide (c = 34 ∨ c = 92)) := by
      have e1 : ((c.toNat : Int) == 34) = decide (c = 34) := by
        rw [Bool.eq_iff_iff]; simp only [beq_iff_eq, decide_eq_true_eq]
        constructor
        · intro h; apply UInt8.toNat_inj.1; show c.toNat = 34; omega
        · intro h; rw [h]; rfl
      have e2 : ((c.toNat : Int) == 92) = decide (c = 92) := by
        rw [Bool.eq_iff_iff]; simp only [beq_iff_eq, decide_eq_true_eq]
        constructor
        · intro h; apply UInt8.toNat_inj.1; show c.toNat = 92; omega
        · intro h; rw [h]; rfl
      rw [Option.bind_some, e1, e2]
      by_cases q : c = 34
      · simp [q]
      · simp [q]
    rw [hz, Option.bind_some]
    have step : ∀ (x : Str), x.length ≤ 2 + 2 * done.length → shape_said_j23 a (done.length : Int) (shape_said_l18 a k) x = some (x ++ [c] ++ (esc rest ++ [34])) := fun x hx => by
      unfold shape_said_j23
      rw [idx_mid h, Option.bind_some, bldB_ok (by omega) (by omega) (by omega), Option.bind_some, u8_nat, w64 (by omega) (by omega)]
      have := said_loop a hl rest (done ++ [c]) k (x ++ [c]) (by simp [h]) (by simp at hk; omega) (by simp; omega)
      simp only [List.length_append, List.length_cons, List.length_nil, Nat.zero_add, Int.natCast_add, Int.cast_ofNat_Int] at this
      exact this
    by_cases q : c = 34 ∨ c = 92
    · rw [if_pos (by simpa using q), bldB_ok (by omega) (by omega) (by omega), Option.bind_some, step _ (by simp; omega), esc, escC, if_pos q]
      simp
    · rw [if_neg (by simpa using q), step _ (by omega), esc, escC, if_neg q]
      simp
theorem said_ok (n : Nat) (a : Str) (hl : a.length < 100000) (hn : a.length < n) : shape_said n a = some (sd a) := by
  unfold shape_said
  rw [bldB_ok (by omega) (by omega) (by simp), Option.bind_some]
  have := said_loop a hl a [] n [34] rfl hn (by simp)
  exact this
end Pr
end Go.Ev


namespace Go.Ev
namespace Pr
set_option linter.unusedVariables false
set_option linter.unusedSimpArgs false

theorem prA_len : ∀ (l : List Attr), attrsOk l → (prA l).length ≤ 300 := by
  intro l h
  rcases h with rfl | ⟨a, rfl, _, h1, h2⟩
  · simp [prA]
  · have := sd_len a.Name
    have := sd_len a.Value
    simp only [prA, List.length_append, List.length_cons, List.length_nil]; omega
theorem prK_len (k : Str) (h : k.length ≤ 64) : (prK k).length ≤ 140 := by
  have := sd_len k
  unfold prK; split
  · simp
  · simp only [List.length_append, List.length_cons, List.length_nil]; omega
theorem tag_len {s : Str} (h : tagOk s = true) : s ≠ [] ∧ s.length ≤ 16 := by
  unfold tagOk at h
  simp only [Bool.and_eq_true, Bool.not_eq_true', decide_eq_true_eq, beq_eq_false_iff_ne] at h
  exact ⟨h.1.1.1, h.1.1.2⟩
theorem pr_len : ∀ (m : Nat) (t : Tree), tcnt t ≤ m → tgood t → (pr t).length ≤ 1000 * tcnt t
  | 0, t, h, _ => by rw [tcnt_kids] at h; omega
  | m + 1, t, h, hg => by
    obtain ⟨h1, h2⟩ := (tgood_iff t).1 hg
    have hl : ∀ (l : List Tree), (∀ z ∈ l, z ∈ t.Kids) → (prs l).length ≤ 1000 * lcnt l := by
      intro l
      induction l with
      | nil => intro _; simp [prs]
      | cons x l ih =>
        intro hm
        have hx := hm x List.mem_cons_self
        have := pr_len m x (by have := lcnt_mem' hx; omega) (lg_mem.1 h2 x hx)
        have := ih (fun z hz => hm z (List.mem_cons_of_mem _ hz))
        simp only [prs, List.length_append, lcnt]; omega
    have hk := hl t.Kids (fun z hz => hz)
    rw [pr_eq, tcnt_kids]
    rcases h1 with ⟨a1, a2, a3, a4, a5⟩ | ⟨a1, a2, a3, a4, a5⟩
    · rw [if_pos a1]
      have := sd_len t.Text; omega
    · obtain ⟨t1, t2⟩ := tag_len a1
      rw [if_neg t1]
      have := prA_len _ a4
      have := prK_len _ a3
      simp only [List.length_append, List.length_cons, List.length_nil]; omega
theorem kids_loop (self : Str → Tree → Option Str) (t : Tree) (hl : t.Kids.length < 1000000) (M : Nat) (hM : M < 900000000) (hs : ∀ z ∈ t.Kids, ∀ b : Str, b.length + (pr z).length ≤ M → self b z = some (b ++ pr z)) : ∀ (rest done : List Tree) (k : Nat) (b : Str), t.Kids = done ++ rest → rest.length < k → b.length + (prs rest).length ≤ M →
    shape_render1_l61 self t k b (done.length : Int) = some (b ++ prs rest ++ [60, 47, 62])
  | [], done, k + 1, b, h, hk, hb => by
    rw [shape_render1_l61, if_neg (by rw [h]; simp), bldS_ok (by omega) (by simp)]; simp [prs]
  | z :: rest, done, k + 1, b, h, hk, hb => by
    have hlen : done.length < t.Kids.length := by rw [h]; simp
    simp only [prs, List.length_append] at hb
    rw [shape_render1_l61, if_pos (by rw [decide_eq_true_eq]; omega), idx_mid h, Option.bind_some, hs z (by rw [h]; simp) b (by omega), Option.bind_some, w64 (by omega) (by omega)]
    have := kids_loop self t hl M hM hs rest (done ++ [z]) k (b ++ pr z) (by simp [h]) (by simp at hk; omega) (by simp only [List.length_append]; omega)
    simp only [List.length_append, List.length_cons, List.length_nil, Nat.zero_add, Int.natCast_add, Int.cast_ofNat_Int] at this
    rw [this, prs]; simp
theorem attrs_loop (n : Nat) (hn : 100 < n) (self : Str → Tree → Option Str) (t : Tree) (ha : attrsOk t.Attrs) (b : Str) (hb : b.length < 800000000) : shape_render1_l30 n self t n b 0 = shape_render1_l61 self t n (b ++ prA t.Attrs ++ [62]) 0 := by
  obtain ⟨n, rfl⟩ : ∃ q, n = q + 2 := ⟨n - 2, by omega⟩
  rcases ha with h | ⟨a, h, h0, h1, h2⟩
  · rw [shape_render1_l30, if_neg (by rw [h]; simp), bldB_ok (by omega) (by omega) (by omega), Option.bind_some, h]
    simp [prA]
  · have s1 := sd_len a.Name
    have s2 := sd_len a.Value
    have hi : idx t.Attrs 0 = some a := by rw [h]; rfl
    rw [shape_render1_l30, if_pos (by rw [h]; simp), hi, Option.bind_some, said_ok _ _ (by omega) (by omega), Option.bind_some, cat_ok (by simp) (by omega), Option.bind_some, cat_ok (by simp only [List.length_append, List.length_cons, List.length_nil]; omega) (by simp), Option.bind_some, said_ok _ _ (by omega) (by omega), Option.bind_some, cat_ok (by simp only [List.length_append, List.length_cons, List.length_nil]; omega) (by omega), Option.bind_some, bldS_ok (by omega) (by simp only [List.length_append, List.length_cons, List.length_nil]; omega), Option.bind_some, w64 (by omega) (by omega)]
    rw [shape_render1_l30, if_neg (by rw [h]; simp), bldB_ok (by omega) (by omega) (by simp only [List.length_append, List.length_cons, List.length_nil]; omega), Option.bind_some, h]
    simp [prA]
theorem render_ok : ∀ (m : Nat) (t : Tree), tcnt t ≤ m → tgood t → m < 100000 → ∀ n, m + 100 < n → ∀ b : Str, b.length + (pr t).length ≤ 700000000 → shape_render1 n b t = some (b ++ pr t)
  | 0, t, h, _, _, n, _, b, _ => by rw [tcnt_kids] at h; omega
  | m + 1, t, h, hg, hm, n + 1, hn, b, hb => by
    obtain ⟨h1, h2⟩ := (tgood_iff t).1 hg
    have hk := tcnt_kids t
    have hkl := lcnt_len t.Kids
    rw [shape_render1]
    rw [pr_eq] at hb ⊢
    rcases h1 with ⟨a1, a2, a3, a4, a5⟩ | ⟨a1, a2, a3, a4, a5⟩
    · rw [if_pos a1] at hb ⊢
      rw [if_pos (by simp [a1]), said_ok _ _ (by omega) (by omega), Option.bind_some, bldS_ok (by omega) (by have := sd_len t.Text; omega), Option.bind_some]
    · obtain ⟨t1, t2⟩ := tag_len a1
      rw [if_neg t1] at hb ⊢
      simp only [List.length_append, List.length_cons, List.length_nil] at hb
      have hA := prA_len _ a4
      have hK := prK_len _ a3
      have go : ∀ (x : Str), x.length ≤ b.length + 20 + (prK t.Key).length → x = b ++ ([60] ++ t.Tag) ++ prK t.Key → shape_render1_j19 n (shape_render1 n) t x = some (b ++ (([60] ++ t.Tag) ++ prK t.Key ++ prA t.Attrs ++ [62] ++ prs t.Kids ++ [60, 47, 62])) := fun x hx he => by
        unfold shape_render1_j19
        rw [attrs_loop n (by omega) _ t a4 x (by omega)]
        have := kids_loop (shape_render1 n) t (by omega) 700000000 (by omega) (fun z hz c hc => render_ok m z (by have := lcnt_mem' hz; omega) (lg_mem.1 h2 z hz) (by omega) n (by omega) c hc) t.Kids [] n (x ++ prA t.Attrs ++ [62]) rfl (by omega) (by rw [he]; simp only [List.length_append, List.length_cons, List.length_nil]; omega)
        rw [show ((([] : List Tree).length : Nat) : Int) = 0 from rfl] at this
        rw [this, he]; simp
      rw [if_neg (by simp [t1]), cat_ok (by simp) (by omega), Option.bind_some, bldS_ok (by omega) (by simp only [List.length_append, List.length_cons, List.length_nil]; omega), Option.bind_some]
      by_cases hq : t.Key = []
      · rw [if_neg (by simp [hq])]
        exact go _ (by simp only [List.length_append, List.length_cons, List.length_nil]; omega) (by simp [prK, hq])
      · have := sd_len t.Key
        rw [if_pos (by simp [hq]), said_ok _ _ (by omega) (by omega), Option.bind_some, cat_ok (by simp) (by omega), Option.bind_some, bldS_ok (by simp only [List.length_append, List.length_cons, List.length_nil]; omega) (by simp only [List.length_append, List.length_cons, List.length_nil]; omega), Option.bind_some]
        exact go _ (by simp only [prK, if_neg hq, List.length_append, List.length_cons, List.length_nil]; omega) (by simp [prK, hq])
theorem print_ok (t : Tree) (hg : tgood t) (hc : tcnt t ≤ 60) (hd : tdep t ≤ 12) (n : Nat) (hn : 300 < n) : shape_Print n t = some (pr t) := by
  unfold shape_Print
  have := pr_len _ t (Nat.le_refl _) hg
  rw [Right_ok n t (by omega) (by omega) hg, Option.bind_some, if_neg (by simp; omega), render_ok (tcnt t) t (Nat.le_refl _) hg (by omega) n (by omega) [] (by simp; omega)]
  rfl
end Pr
end Go.Ev


namespace Go.Ev
namespace Pr
set_option linter.unusedVariables false
set_option linter.unusedSimpArgs false

theorem drop_all {l : List UInt8} {p : UInt8 → Bool} (h : l.dropWhile p = []) : ∀ c ∈ l, p c = true := by
  induction l with
  | nil => intro c hc; cases hc
  | cons a l ih =>
    rw [List.dropWhile_cons] at h
    split at h
    · rename_i ha
      intro c hc
      rcases List.mem_cons.1 hc with rfl | hc
      · exact ha
      · exact ih h c hc
    · cases h
theorem drop_or {l : List UInt8} {p : UInt8 → Bool} : ∀ c ∈ l, p c = true ∨ c ∈ l.dropWhile p := by
  induction l with
  | nil => intro c hc; cases hc
  | cons a l ih =>
    intro c hc
    rw [List.dropWhile_cons]
    split
    · rename_i ha
      rcases List.mem_cons.1 hc with rfl | hc
      · exact .inl ha
      · exact ih c hc
    · exact .inr hc
theorem trim_all {s : Str} (h : strings_Trim 0 s letters = some []) : ∀ c ∈ s, c ∈ letters := by
  unfold strings_Trim at h
  split at h
  · have h := Option.some.inj h
    unfold Lib.trimS Lib.trimLeftS Lib.trimRightS at h
    have h1 := drop_all h
    intro c hc
    rcases drop_or (l := s.reverse) (p := fun b => letters.contains b) c (by simpa using hc) with q | q
    · simpa using q
    · have := h1 c (by simpa using q)
      simpa using this
  · cases h
theorem tag_all {s : Str} (h : tagOk s = true) : s ≠ [] ∧ ∀ c ∈ s, c ∈ letters := by
  refine ⟨(tag_len h).1, ?_⟩
  unfold tagOk at h
  simp only [Bool.and_eq_true] at h
  exact trim_all (by simpa using h.1.2)

/-! ### What is printed is read in one way -/
theorem esc_inj : ∀ (s t x y : Str), esc s ++ 34 :: x = esc t ++ 34 :: y → s = t ∧ x = y
  | [], [], x, y, h => ⟨rfl, by simpa [esc] using h⟩
  | [], c :: t, x, y, h => by
    exfalso
    simp only [esc, escC, List.nil_append] at h
    split at h
    · simp at h
    · rename_i hc; simp at h; exact hc (.inl h.1.symm)
  | c :: s, [], x, y, h => by
    exfalso
    simp only [esc, escC, List.nil_append] at h
    split at h
    · simp at h
    · rename_i hc; simp at h; exact hc (.inl h.1)
  | c :: s, d :: t, x, y, h => by
    simp only [esc, escC] at h
    split at h <;> split at h
    · simp at h
      obtain ⟨h1, h2⟩ := h
      obtain ⟨h3, h4⟩ := esc_inj s t x y h2
      exact ⟨by rw [h1, h3], h4⟩
    · rename_i hc hd; exfalso; simp at h; exact hd (.inr h.1.symm)
    · rename_i hc hd; exfalso; simp at h; exact hc (.inr h.1)
    · simp at h
      obtain ⟨h1, h2⟩ := h
      obtain ⟨h3, h4⟩ := esc_inj s t x y h2
      exact ⟨by rw [h1, h3], h4⟩
theorem sd_inj {s t x y : Str} (h : sd s ++ x = sd t ++ y) : s = t ∧ x = y := by
  simp only [sd, List.append_assoc, List.cons_append, List.nil_append, List.cons.injEq, true_and] at h
  exact esc_inj s t x y h
theorem sd_head (s x : Str) : ∃ r, sd s ++ x = 34 :: r := ⟨_, rfl⟩
theorem tag_inj : ∀ (s t x y : Str), (∀ c ∈ s, c ∈ letters) → (∀ c ∈ t, c ∈ letters) → (∃ c r, x = c :: r ∧ c ∉ letters) → (∃ c r, y = c :: r ∧ c ∉ letters) → s ++ x = t ++ y → s = t ∧ x = y
  | [], [], x, y, _, _, _, _, h => ⟨rfl, h⟩
  | [], d :: t, x, y, _, ht, ⟨c, r, hx, hc⟩, _, h => by
    subst hx
    simp at h
    exact absurd (by rw [h.1]; exact ht d (by simp)) hc
  | c :: s, [], x, y, hs, _, _, ⟨d, r, hy, hd⟩, h => by
    subst hy
    simp at h
    exact absurd (by rw [← h.1]; exact hs c (by simp)) hd
  | c :: s, d :: t, x, y, hs, ht, hx, hy, h => by
    simp at h
    obtain ⟨h1, h2⟩ := tag_inj s t x y (fun c hc => hs c (by simp [hc])) (fun c hc => ht c (by simp [hc])) hx hy h.2
    exact ⟨by rw [h.1, h1], h2⟩
theorem prA_inj : ∀ (l m : List Attr) (x y : Str), prA l ++ 62 :: x = prA m ++ 62 :: y → l = m ∧ x = y
  | [], [], x, y, h => ⟨rfl, by simpa [prA] using h⟩
  | [], b :: m, x, y, h => by exfalso; simp [prA] at h
  | a :: l, [], x, y, h => by exfalso; simp [prA] at h
  | a :: l, b :: m, x, y, h => by
    simp only [prA, List.append_assoc, List.cons_append, List.nil_append, List.cons.injEq, true_and] at h
    obtain ⟨h1, h2⟩ := sd_inj h
    simp only [List.cons.injEq, true_and] at h2
    obtain ⟨h3, h4⟩ := sd_inj h2
    obtain ⟨h5, h6⟩ := prA_inj l m x y h4
    obtain ⟨a1, a2⟩ := a; obtain ⟨b1, b2⟩ := b
    simp only at h1 h3
    exact ⟨by rw [h1, h3, h5], h6⟩
theorem prA_head (l : List Attr) (x : Str) : ∃ c r, prA l ++ 62 :: x = c :: r ∧ c ∉ letters ∧ c ≠ 35 := by
  cases l with
  | nil => exact ⟨62, x, rfl, by decide, by decide⟩
  | cons a l => exact ⟨32, _, rfl, by decide, by decide⟩
theorem prK_inj {k l : Str} {x y : Str} (hx : ∃ c r, x = c :: r ∧ c ≠ 35) (hy : ∃ c r, y = c :: r ∧ c ≠ 35) (h : prK k ++ x = prK l ++ y) : k = l ∧ x = y := by
  unfold prK at h
  obtain ⟨c, r, rfl, hc⟩ := hx
  obtain ⟨d, q, rfl, hd⟩ := hy
  split at h <;> split at h
  · rename_i h1 h2; exact ⟨by rw [h1, h2], by simpa using h⟩
  · exfalso; simp at h; exact hc h.1
  · exfalso; simp at h; exact hd h.1.symm
  · simp only [List.append_assoc, List.cons_append, List.nil_append, List.cons.injEq, true_and] at h
    exact sd_inj h
end Pr
end Go.Ev


namespace Go.Ev
namespace Pr
set_option linter.unusedVariables false
set_option linter.unusedSimpArgs false

theorem key_head (k : Str) (l : List Attr) (x : Str) : ∃ c r, prK k ++ (prA l ++ 62 :: x) = c :: r ∧ c ∉ letters := by
  unfold prK
  split
  · obtain ⟨c, r, h1, h2, _⟩ := prA_head l x
    exact ⟨c, r, by simpa using h1, h2⟩
  · exact ⟨35, _, rfl, by decide⟩
theorem pr_text {t : Tree} (h : t.Tag = []) (x : Str) : pr t ++ x = sd t.Text ++ x := by rw [pr_eq, if_pos h]
theorem pr_elem {t : Tree} (h : t.Tag ≠ []) (x : Str) : pr t ++ x = 60 :: (t.Tag ++ (prK t.Key ++ (prA t.Attrs ++ 62 :: (prs t.Kids ++ (60 :: 47 :: 62 :: x))))) := by
  rw [pr_eq, if_neg h]; simp
/-- The second sign of an element is a letter. -/
theorem pr_start {t : Tree} (h : tgood t) (x : Str) : (∃ r, pr t ++ x = 34 :: r) ∨ (∃ c r, pr t ++ x = 60 :: c :: r ∧ c ∈ letters) := by
  obtain ⟨h1, _⟩ := (tgood_iff t).1 h
  rcases h1 with ⟨a1, _⟩ | ⟨a1, _⟩
  · left; rw [pr_text a1]; exact sd_head _ _
  · right
    obtain ⟨g1, g2⟩ := tag_all a1
    rw [pr_elem g1]
    cases hq : t.Tag with
    | nil => exact absurd hq g1
    | cons c r => exact ⟨c, _, rfl, g2 c (by rw [hq]; simp)⟩
theorem prs_inj (P : Tree → Prop) (hP : ∀ t, P t → tgood t) (hi : ∀ t u, P t → tgood u → ∀ x y, pr t ++ x = pr u ++ y → t = u ∧ x = y) : ∀ (l m : List Tree) (x y : Str), (∀ t ∈ l, P t) → (∀ u ∈ m, tgood u) → prs l ++ 60 :: 47 :: x = prs m ++ 60 :: 47 :: y → l = m ∧ x = y
  | [], [], x, y, _, _, h => ⟨rfl, by simpa [prs] using h⟩
  | [], u :: m, x, y, _, hm, h => by
    exfalso
    simp only [prs, List.nil_append, List.append_assoc] at h
    rcases pr_start (hm u (by simp)) (prs m ++ 60 :: 47 :: y) with ⟨r, e⟩ | ⟨c, r, e, hc⟩
    · rw [e] at h; simp at h
    · rw [e] at h; simp at h; rw [← h.1] at hc; exact absurd hc (by decide)
  | t :: l, [], x, y, hl, _, h => by
    exfalso
    simp only [prs, List.nil_append, List.append_assoc] at h
    rcases pr_start (hP t (hl t (by simp))) (prs l ++ 60 :: 47 :: x) with ⟨r, e⟩ | ⟨c, r, e, hc⟩
    · rw [e] at h; simp at h
    · rw [e] at h; simp at h; rw [h.1] at hc; exact absurd hc (by decide)
  | t :: l, u :: m, x, y, hl, hm, h => by
    simp only [prs, List.append_assoc] at h
    obtain ⟨h1, h2⟩ := hi t u (hl t (by simp)) (hm u (by simp)) _ _ h
    obtain ⟨h3, h4⟩ := prs_inj P hP hi l m x y (fun z hz => hl z (by simp [hz])) (fun z hz => hm z (by simp [hz])) h2
    exact ⟨by rw [h1, h3], h4⟩
theorem pr_inj : ∀ (m : Nat) (t u : Tree), tcnt t ≤ m → tgood t → tgood u → ∀ x y, pr t ++ x = pr u ++ y → t = u ∧ x = y
  | 0, t, u, h, _, _, _, _, _ => by rw [tcnt_kids] at h; omega
  | m + 1, t, u, hm, ht, hu, x, y, h => by
    obtain ⟨h1, h2⟩ := (tgood_iff t).1 ht
    obtain ⟨h3, h4⟩ := (tgood_iff u).1 hu
    rcases h1 with ⟨a1, a2, a3, a4, a5⟩ | ⟨a1, a2, a3, a4, a5⟩ <;> rcases h3 with ⟨b1, b2, b3, b4, b5⟩ | ⟨b1, b2, b3, b4, b5⟩
    · rw [pr_text a1, pr_text b1] at h
      obtain ⟨e1, e2⟩ := sd_inj h
      refine ⟨?_, e2⟩
      rw [← tree_eta t, ← tree_eta u, a1, a2, a3, a4, b1, b2, b3, b4, e1]
    · exfalso
      obtain ⟨g1, _⟩ := tag_all b1
      rw [pr_text a1, pr_elem g1] at h
      obtain ⟨r, e⟩ := sd_head t.Text x
      rw [e] at h; simp at h
    · exfalso
      obtain ⟨g1, _⟩ := tag_all a1
      rw [pr_elem g1, pr_text b1] at h
      obtain ⟨r, e⟩ := sd_head u.Text y
      rw [e] at h; simp at h
    · obtain ⟨g1, g2⟩ := tag_all a1
      obtain ⟨k1, k2⟩ := tag_all b1
      rw [pr_elem g1, pr_elem k1] at h
      simp only [List.cons.injEq, true_and] at h
      obtain ⟨e1, h⟩ := tag_inj _ _ _ _ g2 k2 (key_head _ _ _) (key_head _ _ _) h
      obtain ⟨e2, h⟩ := prK_inj (by obtain ⟨c, r, q1, _, q3⟩ := prA_head t.Attrs (prs t.Kids ++ (60 :: 47 :: 62 :: x)); exact ⟨c, r, q1, q3⟩) (by obtain ⟨c, r, q1, _, q3⟩ := prA_head u.Attrs (prs u.Kids ++ (60 :: 47 :: 62 :: y)); exact ⟨c, r, q1, q3⟩) h
      obtain ⟨e3, h⟩ := prA_inj _ _ _ _ h
      obtain ⟨e4, h⟩ := prs_inj (fun z => tcnt z ≤ m ∧ tgood z) (fun z hz => hz.2) (fun z w hz hw x y => pr_inj m z w hz.1 hz.2 hw x y) t.Kids u.Kids _ _ (fun z hz => ⟨by have := lcnt_mem' hz; omega, lg_mem.1 h2 z hz⟩) (lg_mem.1 h4) h
      simp only [List.cons.injEq, true_and] at h
      refine ⟨?_, h⟩
      rw [← tree_eta t, ← tree_eta u, e1, e2, e3, e4, a2, b2]
theorem abeq_true : ∀ {a b : List Attr}, abeq a b = true → a = b
  | [], [], _ => rfl
  | x :: l, y :: m, h => by
    simp only [abeq, Bool.and_eq_true, Attr.beq, beq_iff_eq] at h
    obtain ⟨⟨h1, h2, _⟩, h3⟩ := h
    obtain ⟨x1, x2⟩ := x; obtain ⟨y1, y2⟩ := y
    simp only at h1 h2
    rw [h1, h2, abeq_true h3]
  | [], _ :: _, h => by cases h
  | _ :: _, [], h => by cases h
theorem tbeq_true : ∀ (m : Nat) (a b : Tree), tcnt a ≤ m → tbeq a b = true → a = b
  | 0, a, b, h, _ => by rw [tcnt_kids] at h; omega
  | m + 1, a, b, hm, h => by
    rw [tbeq_eq] at h
    simp only [Bool.and_eq_true, beq_iff_eq] at h
    obtain ⟨⟨⟨⟨h1, h2⟩, h3⟩, h4⟩, h5⟩ := h
    have : ∀ (l k : List Tree), (∀ z ∈ l, z ∈ a.Kids) → tbeq.lbeq l k = true → l = k := by
      intro l
      induction l with
      | nil => intro k _ hk; cases k with | nil => rfl | cons _ _ => cases hk
      | cons x l ih =>
        intro k hl hk
        cases k with
        | nil => cases hk
        | cons y k =>
          simp only [tbeq.lbeq, Bool.and_eq_true] at hk
          rw [tbeq_true m x y (by have := lcnt_mem' (hl x (by simp)); omega) hk.1, ih k (fun z hz => hl z (by simp [hz])) hk.2]
    rw [← tree_eta a, ← tree_eta b, h1, h2, h3, abeq_true h4, this a.Kids b.Kids (fun z hz => hz) h5]
theorem pr_tbeq (t u : Tree) (ht : tgood t) (hu : tgood u) : (pr t == pr u) = tbeq t u := by
  cases hq : tbeq t u with
  | true => rw [tbeq_true _ t u (Nat.le_refl _) hq]; simp
  | false =>
    rw [beq_eq_false_iff_ne]
    intro h
    have := (pr_inj _ t u (Nat.le_refl _) ht hu [] [] (by simpa using h)).1
    rw [this, tbeq_refl] at hq; cases hq
end Pr
end Go.Ev


namespace Go.Ev
namespace Pr
set_option linter.unusedVariables false
set_option linter.unusedSimpArgs false

/-! ### ShapePrints -/
theorem j85_ok (n : Nat) (g k x : Str) (a : List Attr) (ks : List Tree) (h : shape_Right n (Tree.mk g k x a ks) = some false) : porticolaw13_ShapePrints_j85 n g k x a ks = some true := by
  have hp : shape_Print n (Tree.mk g k x a ks) = some [] := by unfold shape_Print; rw [h]; rfl
  unfold porticolaw13_ShapePrints_j85
  rw [h, hp]; rfl
theorem notright {n : Nat} {t : Tree} (h : shape_right n t = some false) : shape_Right n t = some false := by
  unfold shape_Right; rw [h]; rfl
theorem notel (n : Nat) (t : Tree) (hg : t.Tag ≠ []) (h : shape_element n t = some false) : shape_Right (n + 1) t = some false := by
  refine notright ?_
  rw [shape_right, if_neg (by simp [hg]), h]; rfl
theorem el_trim (n : Nat) (t : Tree) (s : Str) (h1 : t.Tag.length ≤ 16) (h2 : strings_Trim n t.Tag letters = some s) (h : s ≠ [] ∨ t.Text ≠ [] ∨ 24 < t.Kids.length) : shape_element n t = some false := by
  have h2' : strings_Trim n t.Tag [97, 98, 99, 100, 101, 102, 103, 104, 105, 106, 107, 108, 109, 110, 111, 112, 113, 114, 115, 116, 117, 118, 119, 120, 121, 122, 48, 49, 50, 51, 52, 53, 54, 55, 56, 57] = some s := h2
  unfold shape_element
  rw [if_neg (by simp; omega), h2', Option.bind_some, Option.bind_some, if_pos]
  rcases h with h | h | h
  · simp [h]
  · simp [h]
  · have : decide (24 < (t.Kids.length : Int)) = true := by rw [decide_eq_true_eq]; omega
    simp [this]
theorem wrapz {z : Int} (h0 : 0 ≤ z) (h1 : z ≤ 9) (b : Int) (hb0 : 0 ≤ b) (hb : b ≤ 100) : IntKind.wrap .i64 (b + IntKind.wrap .i64 (1 + z)) = b + (1 + z) := by
  rw [w64 (n := 1 + z) (by omega) (by omega), w64 (by omega) (by omega)]
theorem nest_loop (z : Int) (h0 : 0 ≤ z) (h1 : z ≤ 9) : ∀ (m i k : Nat) (t : Tree), (i : Int) + m = 13 + z → m < k → tgood t → tcnt t ≤ 13 + i → i < tdep t → porticolaw13_ShapePrints_l146 1000 z k t.Tag t.Key t.Text t.Attrs t.Kids (i : Int) = some true
  | 0, i, k + 1, t, hi, hk, hg, hc, hd => by
    rw [porticolaw13_ShapePrints_l146, wrapz h0 h1 12 (by omega) (by omega), if_neg (by simp; omega)]
    refine j85_ok 1000 _ _ _ _ _ ?_
    rw [tree_eta, Right_ok 1000 t (by omega) (by omega) hg]
    have : decide (tdep t ≤ 12) = false := by rw [decide_eq_false_iff_not]; omega
    rw [this, Bool.and_false]
  | m + 1, i, k + 1, t, hi, hk, hg, hc, hd => by
    rw [porticolaw13_ShapePrints_l146, wrapz h0 h1 12 (by omega) (by omega), if_pos (by simp; omega), w64 (by omega) (by omega), tree_eta]
    have hgood : tgood (Tree.mk [97] [] [] [] [t]) := (tgood_iff _).2 ⟨.inr ⟨(show tagOk [97] = true by decide +kernel), rfl, by simp [Tree.Key], .inl rfl, by simp [Tree.Kids]⟩, lg_mem.2 (fun w hw => by rw [List.mem_singleton.1 hw]; exact hg)⟩
    have := nest_loop z h0 h1 m (i + 1) k (Tree.mk [97] [] [] [] [t]) (by omega) (by omega) hgood (by simp only [tcnt, lcnt]; omega) (by simp only [tdep, ldep]; omega)
    exact this
theorem rep_ok {α : Type} {sz nb : Nat} {n : Int} {z : α} (h : 0 ≤ n ∧ n.toNat * sz ≤ 16777216 ∧ (nb : Int) * n ≤ 281474976710656 ∧ n ≤ 16777216) : mkRow sz nb n z = some (List.replicate n.toNat z) := by unfold mkRow; rw [if_pos h]
theorem bads (t : Tree) (hg : tgood t) (hc : tcnt t ≤ 13) (z w : Int) (h0 : 0 ≤ z) (h1 : z ≤ 9) (w0 : 0 ≤ w) (w1 : w ≤ 7) :
    (if (w == 0) = true then (porticolaw13_ShapePrints_j85 1000 ([65]) (t.Key) (t.Text) (t.Attrs) (t.Kids)) else (if (w == 1) = true then (porticolaw13_ShapePrints_j85 1000 ([97]) (t.Key) ([120]) (t.Attrs) (t.Kids)) else (if (w == 2) = true then ((mkRow 1 1 (IntKind.wrap .i64 (64 + (IntKind.wrap .i64 (1 + z)))) 0).bind fun z103 => (porticolaw13_ShapePrints_j85 1000 ((Tree.mk [] [] ((z103).map fun (n : Int) => UInt8.ofNat n.toNat) [] []).Tag) ((Tree.mk [] [] ((z103).map fun (n : Int) => UInt8.ofNat n.toNat) [] []).Key) ((Tree.mk [] [] ((z103).map fun (n : Int) => UInt8.ofNat n.toNat) [] []).Text) ((Tree.mk [] [] ((z103).map fun (n : Int) => UInt8.ofNat n.toNat) [] []).Attrs) ((Tree.mk [] [] ((z103).map fun (n : Int) => UInt8.ofNat n.toNat) [] []).Kids))) else (if (w == 3) = true then (porticolaw13_ShapePrints_j85 1000 ((Tree.mk [] [107] [] [] []).Tag) ((Tree.mk [] [107] [] [] []).Key) ((Tree.mk [] [107] [] [] []).Text) ((Tree.mk [] [107] [] [] []).Attrs) ((Tree.mk [] [107] [] [] []).Kids)) else (if (w == 4) = true then (porticolaw13_ShapePrints_j85 1000 ((Tree.mk [97] [] [] [(Attr.mk [120] []), (Attr.mk [120] [])] []).Tag) ((Tree.mk [97] [] [] [(Attr.mk [120] []), (Attr.mk [120] [])] []).Key) ((Tree.mk [97] [] [] [(Attr.mk [120] []), (Attr.mk [120] [])] []).Text) ((Tree.mk [97] [] [] [(Attr.mk [120] []), (Attr.mk [120] [])] []).Attrs) ((Tree.mk [97] [] [] [(Attr.mk [120] []), (Attr.mk [120] [])] []).Kids)) else (if (w == 5) = true then ((mkRow 5 96 (IntKind.wrap .i64 (24 + (IntKind.wrap .i64 (1 + z)))) (Tree.mk [] [] [] [] [])).bind fun z116 => (porticolaw13_ShapePrints_j85 1000 ([97]) ([]) ([]) ([]) (z116))) else (if (w == 6) = true then (porticolaw13_ShapePrints_l146 1000 z 1000 (t.Tag) (t.Key) (t.Text) (t.Attrs) (t.Kids) (0)) else ((mkRow 5 96 20 (Tree.mk [] [] [] [] [])).bind fun z156 => (porticolaw13_ShapePrints_j85 1000 ([97]) ([]) ([]) ([]) ([(Tree.mk [97] [] [] [] z156), (Tree.mk [97] [] [] [] z156), (Tree.mk [97] [] [] [] z156)])))))))))) = some true := by
  have hcase : w = 0 ∨ w = 1 ∨ w = 2 ∨ w = 3 ∨ w = 4 ∨ w = 5 ∨ w = 6 ∨ w = 7 := by omega
  rcases hcase with rfl | rfl | rfl | rfl | rfl | rfl | rfl | rfl
  · exact j85_ok 1000 _ _ _ _ _ (notel 999 (Tree.mk [65] t.Key t.Text t.Attrs t.Kids) (by simp [Tree.Tag]) (el_trim 999 (Tree.mk [65] t.Key t.Text t.Attrs t.Kids) [65] (by simp [Tree.Tag]) rfl (.inl (by simp))))
  · exact j85_ok 1000 _ _ _ _ _ (notel 999 (Tree.mk [97] t.Key [120] t.Attrs t.Kids) (by simp [Tree.Tag]) (el_trim 999 (Tree.mk [97] t.Key [120] t.Attrs t.Kids) [] (by simp [Tree.Tag]) rfl (.inr (.inl (by simp [Tree.Text])))))
  · show ((mkRow 1 1 (IntKind.wrap .i64 (64 + (IntKind.wrap .i64 (1 + z)))) (0 : Int)).bind _) = _
    rw [wrapz h0 h1 64 (by omega) (by omega), rep_ok ⟨by omega, by omega, by omega, by omega⟩, Option.bind_some]
    refine j85_ok 1000 _ _ _ _ _ (notright ?_)
    rw [tree_eta, shape_right, if_pos (by simp [Tree.Tag])]
    refine congrArg some ?_
    rw [Bool.and_eq_false_iff]
    right
    rw [decide_eq_false_iff_not]
    show ¬ ((((List.replicate (64 + (1 + z)).toNat (0 : Int)).map fun (n : Int) => UInt8.ofNat n.toNat).length : Int) ≤ 64)
    rw [List.length_map, List.length_replicate]; omega
  · exact j85_ok 1000 _ _ _ _ _ (notright (t := Tree.mk [] [107] [] [] []) rfl)
  · exact j85_ok 1000 _ _ _ _ _ (notright (t := Tree.mk [97] [] [] [(Attr.mk [120] []), (Attr.mk [120] [])] []) (by decide +kernel))
  · show ((mkRow 5 96 (IntKind.wrap .i64 (24 + (IntKind.wrap .i64 (1 + z)))) (Tree.mk [] [] [] [] [])).bind _) = _
    rw [wrapz h0 h1 24 (by omega) (by omega), rep_ok ⟨by omega, by omega, by omega, by omega⟩, Option.bind_some]
    exact j85_ok 1000 _ _ _ _ _ (notel 999 (Tree.mk [97] [] [] [] (List.replicate (24 + (1 + z)).toNat (Tree.mk [] [] [] [] []))) (by simp [Tree.Tag]) (el_trim 999 (Tree.mk [97] [] [] [] (List.replicate (24 + (1 + z)).toNat (Tree.mk [] [] [] [] []))) [] (by simp [Tree.Tag]) rfl (.inr (.inr (by simp [Tree.Kids]; omega)))))
  · exact nest_loop z h0 h1 (13 + z).toNat 0 1000 t (by omega) (by omega) hg (by omega) (by rw [tdep_kids]; omega)
  · have hm : mkRow 5 96 20 (Tree.mk [] [] [] [] []) = some (List.replicate 20 (Tree.mk [] [] [] [] [])) := rep_ok (by decide)
    rw [if_neg (by decide), if_neg (by decide), if_neg (by decide), if_neg (by decide), if_neg (by decide), if_neg (by decide), if_neg (by decide), hm, Option.bind_some]
    refine j85_ok 1000 _ _ _ _ _ ?_
    have hleaf : tgood (Tree.mk [] [] [] [] []) := (tgood_iff _).2 ⟨.inl ⟨rfl, rfl, rfl, rfl, by simp [Tree.Text]⟩, lg_mem.2 (fun w hw => by cases hw)⟩
    have hmany : tgood (Tree.mk [97] [] [] [] (List.replicate 20 (Tree.mk [] [] [] [] []))) := (tgood_iff _).2 ⟨.inr ⟨(show tagOk [97] = true by decide +kernel), rfl, by simp [Tree.Key], .inl rfl, by simp [Tree.Kids]⟩, lg_mem.2 (fun w hw => by rw [(List.mem_replicate.1 hw).2]; exact hleaf)⟩
    have hall : tgood (Tree.mk [97] [] [] [] [(Tree.mk [97] [] [] [] (List.replicate 20 (Tree.mk [] [] [] [] []))), (Tree.mk [97] [] [] [] (List.replicate 20 (Tree.mk [] [] [] [] []))), (Tree.mk [97] [] [] [] (List.replicate 20 (Tree.mk [] [] [] [] [])))]) := (tgood_iff _).2 ⟨.inr ⟨(show tagOk [97] = true by decide +kernel), rfl, by simp [Tree.Key], .inl rfl, by simp [Tree.Kids]⟩, lg_mem.2 (fun w hw => by
      simp only [Tree.Kids, List.mem_cons, List.not_mem_nil, or_false] at hw
      rcases hw with rfl | rfl | rfl <;> exact hmany)⟩
    have hcnt : tcnt (Tree.mk [97] [] [] [] [(Tree.mk [97] [] [] [] (List.replicate 20 (Tree.mk [] [] [] [] []))), (Tree.mk [97] [] [] [] (List.replicate 20 (Tree.mk [] [] [] [] []))), (Tree.mk [97] [] [] [] (List.replicate 20 (Tree.mk [] [] [] [] [])))]) = 64 := by rfl
    rw [Right_ok 1000 _ (by omega) (by omega) hall, hcnt]; rfl
end Pr
end Go.Ev


namespace Go.Ev
namespace Pr
set_option linter.unusedVariables false
set_option linter.unusedSimpArgs false

theorem prs_app : ∀ (a b : List Tree), prs (a ++ b) = prs a ++ prs b
  | [], b => by simp [prs]
  | x :: a, b => by simp only [List.cons_append, prs, prs_app a b, List.append_assoc]
theorem kids_print (t : Tree) (a3 a4 : Int) (hg : tgood t) (hc : tcnt t ≤ 13) (hd : tdep t ≤ 7) (ht : t.Tag ≠ []) : ∀ (rest done : List Tree) (k : Nat), t.Kids = done ++ rest → rest.length < k →
    porticolaw13_ShapePrints_l48 1000 a3 a4 t (pr t) k (prs done) (done.length : Int) = some true
  | [], done, k + 1, h, hk => by
    have hl := pr_len _ t (Nat.le_refl _) hg
    have hdk : done = t.Kids := by rw [h]; simp
    have e : pr t = (([60] ++ t.Tag) ++ prK t.Key ++ prA t.Attrs ++ [62]) ++ (prs t.Kids ++ [60, 47, 62]) := by rw [pr_eq, if_neg ht]; simp
    have hlen : (pr t).length = ((([60] ++ t.Tag) ++ prK t.Key ++ prA t.Attrs ++ [62] : Str)).length + ((prs t.Kids).length + 3) := by rw [e]; simp only [List.length_append, List.length_cons, List.length_nil]
    rw [porticolaw13_ShapePrints_l48, if_neg (by rw [h]; simp), if_pos (by simp [ht]), hdk]
    rw [w64 (n := ((prs t.Kids).length : Int) + 3) (by omega) (by omega), if_neg (by rw [decide_eq_true_eq]; omega)]
    rw [w64 (n := ((pr t).length : Int) - 3) (by omega) (by omega), w64 (by omega) (by omega)]
    have hcut : cut (pr t) ((((pr t).length : Int) - 3) - ((prs t.Kids).length : Int)) ((pr t).length : Int) = some (prs t.Kids ++ [60, 47, 62]) := by
      unfold cut
      rw [if_pos (by omega), Int.toNat_natCast, List.take_length]
      have : ((((pr t).length : Int) - 3) - ((prs t.Kids).length : Int)).toNat = ((([60] ++ t.Tag) ++ prK t.Key ++ prA t.Attrs ++ [62] : Str)).length := by omega
      rw [this]
      conv => lhs; rw [e]
      rw [List.drop_left]
    rw [hcut, Option.bind_some, cat_ok (by omega) (by simp), Option.bind_some, Option.bind_some, Option.bind_some, if_neg (by simp)]
    obtain ⟨z, z1, z2, z3⟩ := within_ok 1000 a4 0 9 (by omega) (by omega) (by omega)
    obtain ⟨w, w1, w2, w3⟩ := within_ok 1000 a3 0 7 (by omega) (by omega) (by omega)
    have hs := tsz_le _ t (Nat.le_refl _) hg
    rw [z1, Option.bind_some, copy_ok 100 t (by omega) (by omega) 1000 (by omega), Option.bind_some, w1, Option.bind_some]
    exact bads t hg hc z w z2 z3 w2 w3
  | x :: rest, done, k + 1, h, hk => by
    have hl := pr_len _ t (Nat.le_refl _) hg
    have hlen : done.length < t.Kids.length := by rw [h]; simp
    have hx : x ∈ t.Kids := by rw [h]; simp
    have hxg := lg_mem.1 ((tgood_iff t).1 hg).2 x hx
    have hxc := lcnt_mem' hx
    have hkl := lcnt_len t.Kids
    have hxd := (ldep_le t.Kids).2 x hx
    have hk2 := tdep_kids t
    have hk3 := tcnt_kids t
    have hlx := pr_len _ x (Nat.le_refl _) hxg
    have hpd : (prs done).length ≤ 20000 := by
      have e : (pr t).length = ((([60] ++ t.Tag) ++ prK t.Key ++ prA t.Attrs ++ [62] : Str)).length + ((prs t.Kids).length + 3) := by rw [pr_eq, if_neg ht]; simp only [List.length_append, List.length_cons, List.length_nil]; omega
      rw [h, prs_app] at e
      simp only [List.length_append, List.length_cons, List.length_nil] at e; omega
    rw [porticolaw13_ShapePrints_l48, if_pos (by rw [decide_eq_true_eq]; omega), idx_mid h, Option.bind_some, print_ok x hxg (by omega) (by omega) 1000 (by omega), Option.bind_some, cat_ok (by omega) (by omega), Option.bind_some, w64 (by omega) (by omega)]
    have := kids_print t a3 a4 hg hc hd ht rest (done ++ [x]) k (by simp [h]) (by simp at hk; omega)
    simp only [List.length_append, List.length_cons, List.length_nil, Nat.zero_add, Int.natCast_add, Int.cast_ofNat_Int, prs_app, prs, List.append_nil] at this
    exact this
theorem shapePrints_ok (a1 a2 : K_Wood) (a3 a4 : Int) : porticolaw13_ShapePrints 1000 a1 a2 a3 a4 = some true := by
  obtain ⟨t, t1, t2, t3, t4, t5, _⟩ := wood_ok a1 1000 (by omega)
  obtain ⟨u, u1, u2, u3, u4, u5, _⟩ := wood_ok a2 1000 (by omega)
  have hs := tsz_le _ t (Nat.le_refl _) t2
  have ht : t.Tag ≠ [] := by rw [t5]; simp
  have hu : u.Tag ≠ [] := by rw [u5]; simp
  unfold porticolaw13_ShapePrints
  rw [t1, Option.bind_some, u1, Option.bind_some, print_ok t t2 (by omega) (by omega) 1000 (by omega), Option.bind_some, print_ok u u2 (by omega) (by omega) 1000 (by omega), Option.bind_some]
  have n1 : (pr t == []) = false := by rw [pr_eq, if_neg ht]; rfl
  have n2 : (pr u == []) = false := by rw [pr_eq, if_neg hu]; rfl
  rw [n1, n2, if_neg (by simp), trees_ok 100 t u (by omega) (by omega) 1000 (by omega), Option.bind_some, Option.bind_some, pr_tbeq t u t2 u2, if_neg (by simp)]
  have hkl := lcnt_len t.Kids
  have hk3 := tcnt_kids t
  exact kids_print t a3 a4 t2 t3 t4 ht t.Kids [] 1000 rfl (by omega)
end Pr
end Go.Ev


import Derived.Test.YtdelaagbhhnniaaGreatDoorEvDraw
namespace Go.Ev
set_option linter.unusedVariables false
set_option linter.unusedSimpArgs false

section
variable {C : Cfg} {h : Hand} {nt : Nat} {ops : Array Oper} {I : List Nat} {K : Nat → Nat}

/-- Operations by their numbers, carried out one behind the other. -/
inductive Run (C : Cfg) (h : Hand) (nt : Nat) (ops : Array Oper) (I : List Nat) (K : Nat → Nat) : List Nat → Env → St → Env → St → Prop
  | nil (e : Env) (S : St) : Run C h nt ops I K [] e S e S
  | cons (i : Nat) (l : List Nat) (o : Oper) (e e1 e2 : Env) (S S1 S2 : St) (ho : ops[i]? = some o) (hs : stepE C h nt ops o e S = some (.go e1 S1)) (hk : KOk C h nt ops I o e (K i)) (hp : Keep I (K i) S S1) (hr : Run C h nt ops I K l e1 S1 e2 S2) : Run C h nt ops I K (i :: l) e S e2 S2

theorem Run.congr : ∀ (l : List Nat) {e e2 e' : Env} {S S' : St}, Eqv e2 e → Run C h nt ops I K l e S e' S' → ∃ e2', Run C h nt ops I K l e2 S e2' S' ∧ Eqv e2' e'
  | [], e, e2, e', S, S', hq, hv => by cases hv; exact ⟨e2, .nil _ _, hq⟩
  | i :: l, e, e2, e', S, S', hq, hv => by
    cases hv with
    | cons _ _ o _ e1 _ _ S1 _ ho hs hk hp hr =>
      obtain ⟨x, e3, k1, k2, k3⟩ := step_congr hs (e2 := e2) (fun t _ => hq t)
      obtain ⟨e4, m1, m2⟩ := Run.congr l (e2 := e3) (fun t => by rw [k3 t, k2 t, hq t]) hr
      exact ⟨e4, .cons i l o _ _ _ _ _ _ ho k1 (hk.agree (fun t _ => hq t)) hp m1, m2⟩

theorem bubble : ∀ (l1 l2 : List Nat) (i : Nat) {o : Oper} {e e' : Env} {S S' : St}, ops[i]? = some o → (∀ k ∈ l1, ∀ x, ops[k]? = some x → x.apart ops o = true ∧ okK (K k) (K i) = true) → Run C h nt ops I K (l1 ++ i :: l2) e S e' S' →
    ∃ e1 S1 e2, stepE C h nt ops o e S = some (.go e1 S1) ∧ KOk C h nt ops I o e (K i) ∧ Keep I (K i) S S1 ∧ Run C h nt ops I K (l1 ++ l2) e1 S1 e2 S' ∧ Eqv e2 e'
  | [], l2, i, o, e, e', S, S', ho, _, hv => by
    cases hv with
    | cons _ _ o' _ e1 _ _ S1 _ ho' hs hk hp hr =>
      rw [ho] at ho'; cases ho'
      exact ⟨e1, S1, e', hs, hk, hp, hr, fun _ => rfl⟩
  | k :: l1, l2, i, o, e, e', S, S', ho, hok, hv => by
    rw [List.cons_append] at hv
    cases hv with
    | cons _ _ x _ ek _ _ Sk _ hx hs hk hp hr =>
      obtain ⟨e1, S1, e2, k1, kk, kp, k2, k3⟩ := bubble l1 l2 i ho (fun k hk => hok k (by simp [hk])) hr
      obtain ⟨g1, g2⟩ := hok k (by simp) x hx
      obtain ⟨f1, T1, f2, c1, c2, c3, c4, c5, c6, c7⟩ := commute g1 g2 hk kk hp kp hs k1
      obtain ⟨e3, m1, m2⟩ := Run.congr (l1 ++ l2) c3 k2
      exact ⟨f1, T1, e3, c1, c4, c6, .cons k _ x _ _ _ _ _ _ hx c2 c5 c7 m1, fun t => (m2 t).trans (k3 t)⟩

/-- The kind of what was done. -/
def kindOf (I : List Nat) (d : Did) : Nat := bif Nat.beq d.k 2 then (bif I.all (sameAt d.S d.S') then 4 else 2) else d.k

theorem kindOf_ne {I : List Nat} {d : Did} {k : Nat} (h : kindOf I d = k) (h2 : k ≠ 2) (h4 : k ≠ 4) : d.k = k := by
  unfold kindOf at h
  cases hb : Nat.beq d.k 2 with
  | false => rw [hb] at h; exact h
  | true =>
    rw [hb] at h
    simp only [cond_true] at h
    cases hc : I.all (sameAt d.S d.S') <;> rw [hc] at h <;> simp at h <;> omega

theorem kOf_lt (C : Cfg) (ops : Array Oper) (o : Oper) (e e' : Env) (S : St) : kOf C ops o e e' S ≠ 4 := by
  unfold kOf
  split
  · omega
  · split
    · omega
    · rcases kTail_or C ops o e e' S with q | q <;> omega

theorem evOpsK_run (hp : PureOk h) : ∀ (l : List Oper) (k : Nat) {e e' : Env} {S S' : St} {ks : List Did}, (∀ j, l[j]? = ops[k + j]?) → evOpsK C h nt ops l e S = some (ks, e', S') → (∀ j d, ks[j]? = some d → K (k + j) = kindOf I d) →
    (∀ d ∈ ks, ∀ id ∈ d.ids, id ∈ I) → Run C h nt ops I K ((List.range l.length).map (k + ·)) e S e' S' ∧ ks.length = l.length
  | [], k, e, e', S, S', ks, _, hv, hK, hI => by
    simp only [evOpsK, Option.some.injEq, Prod.mk.injEq] at hv
    obtain ⟨rfl, rfl, rfl⟩ := hv
    exact ⟨.nil _ _, rfl⟩
  | o :: l, k, e, e', S, S', ks, hl, hv, hK, hI => by
    have h0 : ops[k]? = some o := by simpa using (hl 0).symm
    rw [List.length_cons, List.range_succ_eq_map, List.map_cons, Nat.add_zero, List.map_map]
    simp only [evOpsK] at hv
    split at hv
    · rename_i e1 S1 hs
      split at hv
      · rename_i ks' e2 S2 hr
        simp only [Option.some.injEq, Prod.mk.injEq] at hv
        obtain ⟨rfl, rfl, rfl⟩ := hv
        have hf : ((fun x => k + x) ∘ Nat.succ) = (fun x => k + 1 + x) := by funext x; simp; omega
        rw [hf]
        obtain ⟨r1, r2⟩ := evOpsK_run hp l (k + 1) (fun j => by have := hl (j + 1); simpa [Nat.add_assoc, Nat.add_comm 1 j] using this) hr (fun j d hj => by
          have := hK (j + 1) d (by simpa using hj)
          rw [show k + 1 + j = k + (j + 1) by omega, this]) (fun d hd => hI d (by simp [hd]))
        have hk0 := hK 0 _ rfl
        rw [Nat.add_zero] at hk0
        refine ⟨.cons k _ o _ _ _ _ _ _ h0 hs ⟨fun q => step_k hp hs (kindOf_ne (hk0.symm.trans q) (by omega) (by omega)), fun q => ⟨kOf_one (kindOf_ne (hk0.symm.trans q) (by omega) (by omega)), fun id hid => hI _ List.mem_cons_self id hid⟩,
          fun q => kOf_new (kindOf_ne (hk0.symm.trans q) (by omega) (by omega))⟩ (fun q id hid => ?_) r1, by simp [r2]⟩
        have hq := hk0.symm.trans q
        unfold kindOf at hq
        simp only at hq
        cases hb : Nat.beq (kOf C ops o e e1 S) 2 with
        | false => rw [hb] at hq; exact absurd hq (kOf_lt C ops o e e1 S)
        | true =>
          rw [hb] at hq
          simp only [cond_true] at hq
          cases hc : I.all (sameAt S S1) with
          | false => rw [hc] at hq; cases hq
          | true => exact sameAt_eq (List.all_eq_true.1 hc id hid)
      · cases hv
    · cases hv
end

/-- A region whose edges are in order. -/
def regOk (ops : Array Oper) : Bool :=
  let B := Region.before ops
  (List.range ops.size).all fun i => match ops[i]? with
    | none => false
    | some o => Nat.blt (B.getD i 0) (2 ^ i) && (o.after.all fun e => !Region.binds .any e || Nat.blt e.on i) &&
      (List.range i).all fun k => match ops[k]? with
        | none => false
        | some x => if (B.getD i 0).testBit k then (o.after.any fun e => Region.binds .any e && (Nat.beq e.on k || (B.getD e.on 0).testBit k)) else x.apart ops o

theorem regOk_spec {ops : Array Oper} (hr : regOk ops = true) {i : Nat} {o : Oper} (hi : ops[i]? = some o) :
    (∀ e ∈ o.after, Region.binds .any e = true → e.on < i) ∧
    (∀ k x, k < i → ops[k]? = some x → if ((Region.before ops).getD i 0).testBit k = true then ∃ e ∈ o.after, Region.binds .any e = true ∧ (e.on = k ∨ ((Region.before ops).getD e.on 0).testBit k = true) else x.apart ops o = true) ∧ ∀ k, i ≤ k → ((Region.before ops).getD i 0).testBit k = false := by
  have hlt : i < ops.size := (Array.getElem?_eq_some_iff.1 hi).1
  simp only [regOk, List.all_eq_true, List.mem_range] at hr
  have h1 := hr i hlt
  rw [hi] at h1
  simp only [Bool.and_eq_true] at h1
  obtain ⟨⟨h0, h1⟩, h2⟩ := h1
  refine ⟨fun e he hb => ?_, fun k x hk hx => ?_, fun k hk => Nat.testBit_lt_two_pow (Nat.lt_of_lt_of_le (Nat.le_of_ble_eq_true h0) (Nat.pow_le_pow_right (by omega) hk))⟩
  · have := Array.all_eq_true_iff_forall_mem.1 h1 e he
    simp only [hb, Bool.not_true, Bool.false_or] at this
    exact Nat.le_of_ble_eq_true this
  · rw [List.all_eq_true] at h2
    have := h2 k (List.mem_range.2 hk)
    rw [hx] at this
    simp only at this
    split at this
    · rename_i hb
      rw [if_pos hb]
      obtain ⟨e, he, hq⟩ := Array.any_eq_true'.1 this
      simp only [Bool.and_eq_true, Bool.or_eq_true] at hq
      exact ⟨e, he, hq.1, hq.2.imp (fun q => Nat.eq_of_beq_eq_true q) id⟩
    · rename_i hb
      rw [if_neg hb]; exact this

/-- What has come up is closed under what must come ahead. -/
def Closed (ops : Array Oper) (listed : Array Bool) : Prop := ∀ j, listed.getD j false = true → ∀ k, k < j → ((Region.before ops).getD j 0).testBit k = true → listed.getD k false = true

theorem draw_any {R : ObjR} {C : Cfg} (hR : ObjOkC R C) {h : Hand} (hh : HandOk R C.P h) {nt : Nat} {ops : Array Oper} (hr : regOk ops = true) {I : List Nat} {K : Nat → Nat} (hK : ∀ i k, k < i → i < ops.size → ((Region.before ops).getD i 0).testBit k = true ∨ okK (K k) (K i) = true) {Q : Exit → Act → World → Prop} :
    ∀ (fuel : Nat) (listed : Array Bool) {cx : Cx} {S S' : St} {w : World} {e e' : Env} {a : Act}, listed.size = ops.size → Closed ops listed →
    ((List.range ops.size).filter fun i => !listed.getD i false).length = fuel → Run C h nt ops I K ((List.range ops.size).filter fun i => !listed.getD i false) e S e' S' → SRel R cx S w → ERel cx S w nt e a →
    (∀ cx' a' w' e'', SRel R cx' S' w' → Ext cx S w cx' S' w' → ERel cx' S' w' nt e'' a' → Eqv e'' e' → a'.defers = a.defers → Q .normal a' w') → wpAny C.P .any ops Q fuel listed a w := by
  intro fuel
  induction fuel with
  | zero =>
    intro listed cx S S' w e e' a hsz hcl hlen hev hS he hk
    have hnil := List.eq_nil_of_length_eq_zero hlen
    rw [hnil] at hev
    cases hev
    refine ⟨?_, hk cx a w e hS (Ext.refl w hS.wf) he (fun _ => rfl) rfl⟩
    cases hq : Region.ready .any ops listed with
    | nil => rfl
    | cons i l =>
      have hi : i ∈ Region.ready .any ops listed := by rw [hq]; simp
      obtain ⟨h1, o, h2, _⟩ := mem_ready.1 hi
      have hlt : i < ops.size := (Array.getElem?_eq_some_iff.1 h2).1
      have : i ∈ (List.range ops.size).filter fun i => !listed.getD i false := by
        rw [List.mem_filter]
        refine ⟨List.mem_range.2 hlt, ?_⟩
        have hlt' : i < listed.size := by omega
        simp [hlt'] at h1 ⊢; exact h1
      rw [hnil] at this; cases this
  | succ fuel ih =>
    intro listed cx S S' w e e' a hsz hcl hlen hev hS he hk
    have step : ∀ i ∈ Region.ready .any ops listed, wpOp C.P ops Q i (wpAny C.P .any ops Q fuel (listed.setIfInBounds i true)) a w := by
      intro i hi
      obtain ⟨h1, o, h2, h3⟩ := mem_ready.1 hi
      have hlt : i < ops.size := (Array.getElem?_eq_some_iff.1 h2).1
      have hlt' : i < listed.size := by omega
      have h1' : listed.getD i false = false := by simp [hlt'] at h1 ⊢; exact h1
      obtain ⟨r1, r2, _⟩ := regOk_spec hr h2
      have hclo : ∀ k, k < i → ((Region.before ops).getD i 0).testBit k = true → listed.getD k false = true := by
        intro k hk hb
        have hkx : ∃ x, ops[k]? = some x := ⟨ops[k], by simp [show k < ops.size by omega]⟩
        obtain ⟨x, hx⟩ := hkx
        have := r2 k x hk hx
        rw [if_pos hb] at this
        obtain ⟨ed, he, hbnd, hor⟩ := this
        rcases hor with q | q
        · rw [← q]; exact h3 ed he hbnd
        · by_cases hke : k < ed.on
          · exact hcl ed.on (h3 ed he hbnd) k hke q
          · rcases Nat.lt_or_ge ed.on k with q1 | q1
            · -- a bit above: from the check at ed.on
              exfalso
              have hel : ed.on < ops.size := by have := r1 ed he hbnd; omega
              have := (regOk_spec hr (show ops[ed.on]? = some ops[ed.on] by simp [hel])).2.2 k (by omega)
              rw [this] at q; cases q
            · have : k = ed.on := by omega
              rw [this]; exact h3 ed he hbnd
      have hmem : i ∈ (List.range ops.size).filter fun i => !listed.getD i false := by
        rw [List.mem_filter]; exact ⟨List.mem_range.2 hlt, by rw [h1']; rfl⟩
      obtain ⟨l1, l2, hsp⟩ := List.append_of_mem hmem
      have hpw : ((List.range ops.size).filter fun i => !listed.getD i false).Pairwise (· < ·) := List.Pairwise.filter _ List.pairwise_lt_range
      rw [hsp] at hpw
      obtain ⟨p1, p2, p3⟩ := List.pairwise_append.1 hpw
      have hlt1 : ∀ k ∈ l1, k < i := fun k hk => p3 k hk i (by simp)
      have hgt2 : ∀ k ∈ l2, i < k := fun k hk => (List.pairwise_cons.1 p2).1 k hk
      rw [hsp] at hev
      obtain ⟨e1, S1, e2, b1, _, _, b2, b3⟩ := bubble l1 l2 i h2 (fun k hk x hx => by
        have hki := hlt1 k hk
        have hkl : listed.getD k false = false := by
          have : k ∈ (List.range ops.size).filter fun i => !listed.getD i false := by rw [hsp]; simp [hk]
          simpa using (List.mem_filter.1 this).2
        have := r2 k x hki hx
        split at this
        · rename_i hb
          have := hclo k hki hb
          rw [hkl] at this; cases this
        · rename_i hnb
          exact ⟨this, (hK i k hki hlt).resolve_left hnb⟩) hev
      have hrest : (List.range ops.size).filter (fun j => !(listed.setIfInBounds i true).getD j false) = l1 ++ l2 := by
        have : (fun j => !(listed.setIfInBounds i true).getD j false) = (fun j => (!listed.getD j false) && decide (j ≠ i)) := by
          funext j
          by_cases hj : i = j
          · subst hj; simp [hlt']
          · rw [getD_set_ne false hj]; simp [Ne.symm hj]
        rw [this, ← List.filter_filter]
        have hcomm : ∀ (l : List Nat) (p q : Nat → Bool), (l.filter p).filter q = (l.filter q).filter p := fun l p q => by
          rw [List.filter_filter, List.filter_filter]; congr 1; funext a; exact Bool.and_comm _ _
        rw [hcomm, hsp, List.filter_append, List.filter_cons]
        simp only [ne_eq, not_true_eq_false, decide_false, Bool.false_eq_true, if_false]
        congr 1
        · rw [List.filter_eq_self]; intro k hk; simp; have := hlt1 k hk; omega
        · rw [List.filter_eq_self]; intro k hk; simp; have := hgt2 k hk; omega
      refine step_sound hR hh b1 hS he (fun cx1 a1 w1 s1 x1 er1 d1 => ?_) h2
      refine ih (listed.setIfInBounds i true) (cx := cx1) (S := S1) (S' := S') (w := w1) (e := e1) (e' := e2) (by simpa using hsz) (fun j hj k hkj hb => ?_) ?_ (by rw [hrest]; exact b2) s1 er1 (fun cx' a' w' e'' q1 q2 q3 q4 q5 => hk cx' a' w' e'' q1 (x1.trans q2) q3 (fun t => (q4 t).trans (b3 t)) (q5.trans d1))
      · by_cases hij : i = j
        · subst hij
          exact getD_set_true (hclo k hkj hb)
        · rw [getD_set_ne false hij] at hj
          exact getD_set_true (hcl j hj k hkj hb)
      · rw [hrest]
        have := hlen
        rw [hsp] at this
        simp at this ⊢; omega
    refine ⟨fun hnone => ?_, step⟩
    exfalso
    -- the least that is left is ready
    cases hq : (List.range ops.size).filter fun i => !listed.getD i false with
    | nil => rw [hq] at hlen; simp at hlen
    | cons m l =>
      have hm : m ∈ (List.range ops.size).filter fun i => !listed.getD i false := by rw [hq]; simp
      obtain ⟨hm1, hm2⟩ := List.mem_filter.1 hm
      have hmlt := List.mem_range.1 hm1
      have hmo : ops[m]? = some ops[m] := by simp [hmlt]
      have hpw : ((List.range ops.size).filter fun i => !listed.getD i false).Pairwise (· < ·) := List.Pairwise.filter _ List.pairwise_lt_range
      rw [hq] at hpw
      have hmin := (List.pairwise_cons.1 hpw).1
      have hready : m ∈ Region.ready .any ops listed := by
        rw [mem_ready]
        refine ⟨by have : m < listed.size := by omega
                   simp [this] at hm2 ⊢; exact hm2, ops[m], hmo, fun ed he hb => ?_⟩
        have hon := (regOk_spec hr hmo).1 ed he hb
        cases hc : listed.getD ed.on false with
        | true => rfl
        | false =>
          have : ed.on ∈ (List.range ops.size).filter fun i => !listed.getD i false := by
            rw [List.mem_filter]; exact ⟨List.mem_range.2 (by omega), by rw [hc]; rfl⟩
          rw [hq] at this
          rcases List.mem_cons.1 this with q | q
          · omega
          · have := hmin _ q; omega
      rw [hnone] at hready
      cases hready

end Go.Ev

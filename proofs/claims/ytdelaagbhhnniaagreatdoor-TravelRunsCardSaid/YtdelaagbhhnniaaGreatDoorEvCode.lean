import Derived.Test.YtdelaagbhhnniaaGreatDoorEvNext
namespace Go.Ev
set_option linter.unusedVariables false
set_option linter.unusedSimpArgs false

theorem AL.get_tidy {α : Type} : ∀ (l : AL α) (seen : List Nat) (n : Nat), AL.get (AL.tidy l seen) n = if seen.contains n then none else AL.get l n
  | [], seen, n => by simp [AL.tidy, AL.get]
  | (k, v) :: l, seen, n => by
    simp only [AL.tidy]
    cases hk : seen.contains k with
    | true =>
      simp only [cond_true]
      rw [AL.get_tidy l seen n, AL.get_cons]
      by_cases hn : k = n
      · subst hn; rw [hk]; simp
      · simp [hn]
    | false =>
      simp only [cond_false]
      rw [AL.get_cons, AL.get_cons, AL.get_tidy l (k :: seen) n]
      by_cases hn : k = n
      · subst hn; rw [hk]; simp
      · simp [hn, Ne.symm hn, List.contains_cons]

theorem AL.get_over {α : Type} : ∀ (l m : AL α) (n : Nat) (x : α), AL.get (AL.over l m) n = some x → AL.get m n = some x ∧ AL.get l n ≠ none
  | [], m, n, x, h => by simp [AL.over, AL.get] at h
  | (k, v) :: l, m, n, x, h => by
    simp only [AL.over] at h
    rw [AL.get_cons]
    cases hm : AL.get m k with
    | none =>
      rw [hm] at h
      have := AL.get_over l m n x h
      refine ⟨this.1, ?_⟩
      by_cases hn : k = n
      · simp [hn]
      · simp [hn]; exact this.2
    | some y =>
      rw [hm] at h
      simp only [AL.get_cons] at h
      by_cases hn : k = n
      · subst hn; simp at h; subst h; exact ⟨hm, by simp⟩
      · rw [if_neg hn] at h
        have := AL.get_over l m n x h
        exact ⟨this.1, by simp [hn]; exact this.2⟩

theorem rep_false (n j : Nat) : (Array.replicate n false).getD j false = false := by
  unfold Array.getD; split <;> simp

theorem belows_mem {n : Nat} : ∀ {l : List AV}, belows n l = true → ∀ y ∈ l, y.under n = true
  | [], _, y, hy => by cases hy
  | x :: l, h, y, hy => by
    simp only [belows, Bool.and_eq_true] at h
    rcases List.mem_cons.1 hy with rfl | hy
    · exact h.1
    · exact belows_mem h.2 y hy

theorem belowE_get {n : Nat} : ∀ {e : Env}, belowE n e = true → ∀ t x, AL.get e t = some x → x.under n = true
  | [], _, t, x, h => by simp [AL.get] at h
  | (k, v) :: l, hb, t, x, h => by
    simp only [belowE, Bool.and_eq_true] at hb
    rw [AL.get_cons] at h
    by_cases hk : k = t
    · rw [if_pos hk] at h; cases h; exact hb.1
    · rw [if_neg hk] at h; exact belowE_get hb.2 t x h

theorem belowH_get {n : Nat} : ∀ {H : AL Blk}, belowH n H = true → ∀ id b, AL.get H id = some b → (∀ g cs, b = .cells g cs → belows n cs = true) ∧ (∀ es, b = .map es → ∀ p ∈ es.es, p.2.1.under n = true)
  | [], _, id, b, h => by simp [AL.get] at h
  | (k, v) :: l, hb, id, b, h => by
    have hrest : belowH n l = true := by cases v <;> simp only [belowH, Bool.and_eq_true] at hb <;> first | exact hb.2 | exact hb
    rw [AL.get_cons] at h
    by_cases hk : k = id
    · rw [if_pos hk] at h
      cases h
      refine ⟨fun g cs hq => ?_, fun es hq => ?_⟩
      · subst hq; simp only [belowH, Bool.and_eq_true] at hb; exact hb.1
      · subst hq; simp only [belowH, Bool.and_eq_true, List.all_eq_true] at hb; exact hb.1
    · rw [if_neg hk] at h; exact belowH_get hrest id b h

/-- What a round has made is forgotten. -/
def dropSt (S0 S : St) : St := { H := AL.over S0.H S.H, T := AL.over S0.T S.T, nx := S0.nx }

theorem drop_cur {R : ObjR} {cx : Cx} {S0 S : St} {w : World} (h : SRel R cx S w) {id g : Nat} (hc : cur (dropSt S0 S) id = some g) : cur S id = some g := by
  unfold cur at hc ⊢
  unfold dropSt at hc
  simp only at hc
  cases hH : AL.get (AL.over S0.H S.H) id with
  | some b =>
    rw [hH] at hc
    rw [(AL.get_over _ _ _ _ hH).1]
    cases b <;> exact hc
  | none =>
    rw [hH] at hc
    simp only at hc
    have hT := (AL.get_over _ _ _ _ hc).1
    cases hS : S.H.get id with
    | some b => have := h.dis id b hS; rw [this] at hT; cases hT
    | none => exact hT

theorem drop_live {S0 S : St} {id : Nat} (hl : live (dropSt S0 S) id) : live S0 id := by
  unfold live cur at hl ⊢
  unfold dropSt at hl
  simp only at hl
  cases hH : AL.get (AL.over S0.H S.H) id with
  | some b =>
    have := (AL.get_over _ _ _ _ hH).2
    cases h0 : S0.H.get id with
    | none => exact absurd h0 this
    | some b0 => cases b0 <;> simp
  | none =>
    rw [hH] at hl
    simp only at hl
    cases hT : AL.get (AL.over S0.T S.T) id with
    | none => exact absurd hT hl
    | some en =>
      have := (AL.get_over _ _ _ _ hT).2
      cases h0 : S0.H.get id with
      | none => exact this
      | some b0 => cases b0 <;> simp

theorem drop_isIt {S0 S : St} {k g : Nat} (h : isIt (dropSt S0 S) k g) : isIt S k g := (AL.get_over _ _ _ _ h).1
theorem drop_liveS {R : ObjR} {cx : Cx} {S0 S : St} {w : World} (h : SRel R cx S w) {i : Nat} (hi : cur (dropSt S0 S) i ≠ none) : cur S i ≠ none := by
  cases hc : cur (dropSt S0 S) i with
  | none => exact absurd hc hi
  | some g => rw [drop_cur h hc]; simp

theorem ARel.drop {R : ObjR} {cx : Cx} {S0 S : St} {w : World} (h : SRel R cx S w) {x : AV} {v : Value} (hx : ARel cx S w x v) (hu : x.under S0.nx = true) : ARel cx (dropSt S0 S) w x v := by
  have nm : ∀ {id g : Nat}, Names S id g → id < S0.nx → Names (dropSt S0 S) id g := fun hn hlt => ⟨hlt, fun g' hg => hn.2 g' (drop_cur h hg)⟩
  induction hx with
  | d x v hd => exact .d x v hd
  | tsl xs tok b off cap hn hd hp =>
    simp only [AV.under] at hu
    exact .tsl xs tok b off cap (nm hn (Nat.le_of_ble_eq_true hu)) hd (fun hc => hp (drop_cur h hc))
  | ptr id g off b hn hp =>
    simp only [AV.under] at hu
    exact .ptr id g off b (nm hn (Nat.le_of_ble_eq_true hu)) (fun hc => hp (drop_cur h hc))
  | msl id g off len lim sz b cap hn hl hcap h63 hp =>
    simp only [AV.under] at hu
    exact .msl id g off len lim sz b cap (nm hn (Nat.le_of_ble_eq_true hu)) hl hcap h63 (fun hc => hp (drop_cur h hc))
  | any v => exact .any v
  | eptr x off b o vs hd hc => exact .eptr x off b o vs hd hc
  | map id b hn hp =>
    simp only [AV.under] at hu
    exact .map id b (nm hn (Nat.le_of_ble_eq_true hu)) (fun hc => hp (drop_cur h hc))
  | fn f cs vs hl hr ih => exact .fn f cs vs hl (fun i x v hx hv => ih i x v hx hv (by simp only [AV.under] at hu; exact belows_mem hu x (List.mem_of_getElem? hx)))
  | agg xs vs hl ho hr ih => exact .agg xs vs hl ho (fun i x v hx hv => ih i x v hx hv (by simp only [AV.under] at hu; exact belows_mem hu x (List.mem_of_getElem? hx)))
  | tup xs vs hl hr ih => exact .tup xs vs hl (fun i x v hx hv => ih i x v hx hv (by simp only [AV.under] at hu; exact belows_mem hu x (List.mem_of_getElem? hx)))
  | it0 k g since st b seen hn hp =>
    simp only [AV.under] at hu
    refine .it0 k g since st b seen (nm hn (Nat.le_of_ble_eq_true hu)) (fun hk => ?_)
    obtain ⟨p1, p2, p3, p4⟩ := hp (drop_isIt hk)
    exact ⟨p1, p2, fun i hi hf => p3 i (drop_liveS h hi) hf, p4⟩
  | it k g id since st b m seen hn hni hm hp =>
    simp only [AV.under, Bool.and_eq_true] at hu
    refine .it k g id since st b m seen (nm hn (Nat.le_of_ble_eq_true hu.1)) (nm hni (Nat.le_of_ble_eq_true hu.2)) (fun hc => hm (drop_cur h hc)) (fun hk => ?_)
    obtain ⟨p1, p2, p3, p4⟩ := hp (drop_isIt hk)
    exact ⟨p1, p2, fun i hi hf => p3 i (drop_liveS h hi) hf, p4⟩

theorem drop_sound {R : ObjR} {cx0 cx : Cx} {S0 S : St} {w0 w : World} (wf0 : ∀ id, live S0 id → id < S0.nx) (h : SRel R cx S w) (e : Ext cx0 S0 w0 cx S w) (hb : belowH S0.nx (AL.over S0.H S.H) = true) :
    SRel R cx (dropSt S0 S) w ∧ Ext cx0 S0 w0 cx (dropSt S0 S) w := by
  have hlS : ∀ id, live (dropSt S0 S) id → live S id := fun id hl => by
    unfold live at *
    cases hc : cur (dropSt S0 S) id with
    | none => exact absurd hc hl
    | some g => rw [drop_cur h hc]; simp
  refine ⟨⟨fun id hl => wf0 id (drop_live hl), fun id b hi => ?_, fun id g cs hi => ?_, fun id es hi => ?_, fun id k x hi => ?_, fun id en hi => ?_, fun id id' b a1 a2 => h.sep id id' b (hlS id a1) (hlS id' a2), h.lt, h.stat⟩, ?_⟩
  · have hS := (AL.get_over _ _ _ _ hi).1
    cases hT : (dropSt S0 S).T.get id with
    | none => rfl
    | some en => have := (AL.get_over _ _ _ _ hT).1; rw [h.dis id b hS] at this; cases this
  · obtain ⟨c1, c2, arr, el, c3, c4, c5⟩ := h.cells id g cs (AL.get_over _ _ _ _ hi).1
    have hbl := (belowH_get hb id _ hi).1 g cs rfl
    refine ⟨c1, c2, arr, el, c3, c4, fun i x hx => ?_⟩
    obtain ⟨v, v1, v2, v3⟩ := c5 i x hx
    exact ⟨v, v1, v2.drop h (belows_mem hbl x (List.mem_of_getElem? hx)), v3⟩
  · obtain ⟨c1, c2, ms, clk, c3, c4, c5⟩ := h.maps id es (AL.get_over _ _ _ _ hi).1
    have hbl := (belowH_get hb id _ hi).2 es rfl
    refine ⟨c1, c2, ms, clk, c3, c4, fun i p m hp hm => ?_⟩
    obtain ⟨v1, v2⟩ := c5 i p m hp hm
    exact ⟨v1, v2.drop h (hbl p (List.mem_of_getElem? hp))⟩
  · exact h.objs id k x (AL.get_over _ _ _ _ hi).1
  · exact h.toks id en (AL.get_over _ _ _ _ hi).1
  · refine ⟨e.size, e.os, e.tape, e.output, Nat.le_refl _, e.prot, fun b hb hn => e.other b hb (fun id hl hf => by
      obtain ⟨q1, g, q2, q3⟩ := hn id hl hf
      exact ⟨q1, g, q2, drop_isIt q3⟩), fun id b hl hf => ?_, fun id g hid hi => e.back id g hid (drop_isIt hi), fun id g b hid h0 hi hf => e.keep id g b hid h0 (drop_isIt hi) hf, fun id g hid hg => e.curs id g hid (drop_cur h hg)⟩
    exact e.own id b (hlS id hl) hf

/-- How a piece of code ends. -/
def Fin (R : ObjR) (cx : Cx) (S : St) (w : World) (nt : Nat) (a : Act) (Q : Exit → Act → World → Prop) (r : Xit × Env × St) : Prop :=
  match r.1 with
  | .normal => ∀ cx' a' w', SRel R cx' r.2.2 w' → Ext cx S w cx' r.2.2 w' → ERel cx' r.2.2 w' nt r.2.1 a' → a'.defers = a.defers → Q .normal a' w'
  | .exit id => ∀ cx' a' w', SRel R cx' r.2.2 w' → Ext cx S w cx' r.2.2 w' → ERel cx' r.2.2 w' nt r.2.1 a' → a'.defers = a.defers → Q (.exit id) a' w'
  | .ret => ∀ cx' a' w', SRel R cx' r.2.2 w' → Ext cx S w cx' r.2.2 w' → ERel cx' r.2.2 w' nt r.2.1 a' → a'.defers = a.defers → Q .ret a' w'
  | .panic v => ∀ cx' a' w' u, SRel R cx' r.2.2 w' → Ext cx S w cx' r.2.2 w' → ARel cx' r.2.2 w' v u → a'.defers = a.defers → Q (.panic [{ v := u, recovered := false }]) a' w'

theorem Fin.trans {R : ObjR} {cx cx1 : Cx} {S S1 : St} {w w1 : World} {nt : Nat} {a a1 : Act} {Q : Exit → Act → World → Prop} {r : Xit × Env × St} (x : Ext cx S w cx1 S1 w1) (d : a1.defers = a.defers) (h : Fin R cx S w nt a Q r) : Fin R cx1 S1 w1 nt a1 Q r := by
  unfold Fin at *
  split at h
  · exact fun cx' a' w' q1 q2 q3 q4 => h cx' a' w' q1 (x.trans q2) q3 (q4.trans d)
  · exact fun cx' a' w' q1 q2 q3 q4 => h cx' a' w' q1 (x.trans q2) q3 (q4.trans d)
  · exact fun cx' a' w' q1 q2 q3 q4 => h cx' a' w' q1 (x.trans q2) q3 (q4.trans d)
  · exact fun cx' a' w' u q1 q2 q3 q4 => h cx' a' w' u q1 (x.trans q2) q3 (q4.trans d)

def codeOk : Code → Bool
  | .region _ ops draw => !draw || regOk ops
  | .seq a b => codeOk a && codeOk b
  | .cond _ a b => codeOk a && codeOk b
  | .block _ a => codeOk a
  | .loop a => codeOk a
  | _ => true

/-- What is asked of the evaluation of a piece of code. -/
def Sound (R : ObjR) (P : Program) (nt : Nat) (c : Code) (f : Env → St → Option (List Res)) : Prop :=
  ∀ (cx : Cx) (S : St) (w : World) (e : Env) (a : Act) (rs : List Res) (Q : Exit → Act → World → Prop), f e S = some rs → SRel R cx S w → ERel cx S w nt e a → (∀ r ∈ rs, Fin R cx S w nt a Q r) → c.wp P Q a w

theorem ERel.over {cx : Cx} {S : St} {w : World} {nt : Nat} {e0 e : Env} {a : Act} (h : ERel cx S w nt e a) : ERel cx S w nt (AL.over e0 e) a :=
  ⟨h.size, fun t x hx => h.rel t x (AL.get_over _ _ _ _ hx).1⟩

theorem loop_sound {R : ObjR} {P : Program} {nt : Nat} {c : Code} {f : Env → St → Option (List Res)} (hf : Sound R P nt c f) : ∀ (n : Nat) (cx : Cx) (S : St) (w : World) (e : Env) (a : Act) (rs : List Res) (Q : Exit → Act → World → Prop),
    loopN f n e S = some rs → SRel R cx S w → ERel cx S w nt e a → (∀ r ∈ rs, Fin R cx S w nt a Q r) → ∀ (b : Frame) (k : List Item) (cs : List Frame),
      ∃ x a' w', Q x a' w' ∧ Arrives P (lone (b.at a (.code c :: .inLoop c :: k)) cs w) b k cs x a' w' := by
  intro n
  induction n with
  | zero => intro cx S w e a rs Q h; simp [loopN] at h
  | succ n ih =>
    intro cx S w e a rs Q h hS he hk b k cs
    simp only [loopN] at h
    have wf := hS.wf
    -- the round's ends
    let Q' : Exit → Act → World → Prop := fun x a' w' => match x with
      | .normal => ∃ cx1 e1 S1 rs1, SRel R cx1 S1 w' ∧ ERel cx1 S1 w' nt e1 a' ∧ Ext cx S w cx1 S1 w' ∧ a'.defers = a.defers ∧ loopN f n e1 S1 = some rs1 ∧ ∀ r ∈ rs1, r ∈ rs
      | x => Q x a' w'
    have hround : c.wp P Q' a w := by
      split at h
      · rename_i rs0 hb
        refine hf cx S w e a rs0 Q' hb hS he (fun r hr => ?_)
        obtain ⟨rs1, h1, h2⟩ := bindL_mem h r hr
        obtain ⟨x, e', S'⟩ := r
        cases x with
        | normal =>
          intro cx' a' w' q1 q2 q3 q4
          simp only [roundEnd] at h1 q1 q2 q3
          by_cases hc : (belowE S.nx (AL.over e e') && belowH S.nx (AL.over S.H S'.H)) = true
          · rw [if_pos hc] at h1
            simp only [Bool.and_eq_true] at hc
            obtain ⟨d1, d2⟩ := drop_sound wf q1 q2 hc.2
            exact ⟨cx', _, _, rs1, d1, ⟨q3.size, fun t x hx => by
              obtain ⟨v, v1, v2⟩ := q3.rel t x (AL.get_over _ _ _ _ hx).1
              exact ⟨v, v1, v2.drop q1 (belowE_get hc.1 t x hx)⟩⟩, d2, q4, h1, h2⟩
          · rw [if_neg hc] at h1
            exact ⟨cx', _, S', rs1, q1, q3.over, q2, q4, h1, h2⟩
        | exit id =>
          simp only [Option.some.injEq] at h1
          subst h1
          have hk' := hk _ (h2 _ (List.mem_singleton.2 rfl))
          unfold Fin at hk' ⊢
          exact fun cx' a' w' q1 q2 q3 q4 => hk' cx' a' w' q1 q2 q3.over q4
        | ret =>
          simp only [Option.some.injEq] at h1
          subst h1
          have hk' := hk _ (h2 _ (List.mem_singleton.2 rfl))
          unfold Fin at hk' ⊢
          exact fun cx' a' w' q1 q2 q3 q4 => hk' cx' a' w' q1 q2 q3.over q4
        | panic v =>
          simp only [Option.some.injEq] at h1
          subst h1
          have hk' := hk _ (h2 _ (List.mem_singleton.2 rfl))
          unfold Fin at hk' ⊢
          exact fun cx' a' w' u q1 q2 q3 q4 => hk' cx' a' w' u q1 q2 q3 q4
      · cases h
    obtain ⟨x, a₁, w₁, hq, harr⟩ := hround b (.inLoop c :: k) cs
    cases x with
    | normal =>
      obtain ⟨cx1, e1, S1, rs1, s1, er1, x1, d1, hl, hsub⟩ := hq
      obtain ⟨x2, a₂, w₂, hq₂, harr₂⟩ := ih cx1 S1 w₁ e1 a₁ rs1 Q hl s1 er1 (fun r hr => (hk r (hsub r hr)).trans x1 d1) b k cs
      exact ⟨x2, a₂, w₂, hq₂, .of_steps (Steps.trans harr (.one step_inLoop)) harr₂⟩
    | exit id => exact ⟨_, a₁, w₁, hq, .pass (x := .inLoop c) rfl (fun _ _ => .inl (by simp)) harr⟩
    | goto l => exact ⟨_, a₁, w₁, hq, .pass (x := .inLoop c) rfl (fun _ _ => .inl (by simp)) harr⟩
    | ret => exact ⟨_, a₁, w₁, hq, .pass (x := .inLoop c) rfl (fun _ _ => .inl (by simp)) harr⟩
    | panic ch => exact ⟨_, a₁, w₁, hq, .pass (x := .inLoop c) rfl (fun _ _ => .inl (by simp)) harr⟩
    | outgrown => exact ⟨_, a₁, w₁, hq, .pass (x := .inLoop c) rfl (fun _ _ => .inl (by simp)) harr⟩

theorem evC_sound {R : ObjR} {C : Cfg} (hR : ObjOkC R C) (hm : C.P.follows .mixedOrders = true) {h : HandL} (hh : HandOkL R C.P h) (hp : PureOk (det h)) {n nt : Nat} : ∀ (c : Code), codeOk c = true → Sound R C.P nt c (evC C h n nt c)
  | .skip, _ => by
    intro cx S w e a rs Q hv hS he hk
    simp only [evC, Option.some.injEq] at hv; subst hv
    exact wp_skip (hk (.normal, e, S) (by simp) cx a w hS (Ext.refl w hS.wf) he rfl)
  | .exit id, _ => by
    intro cx S w e a rs Q hv hS he hk
    simp only [evC, Option.some.injEq] at hv; subst hv
    exact wp_exit (hk (.exit id, e, S) (by simp) cx a w hS (Ext.refl w hS.wf) he rfl)
  | .ret, _ => by
    intro cx S w e a rs Q hv hS he hk
    simp only [evC, Option.some.injEq] at hv; subst hv
    exact wp_ret (hk (.ret, e, S) (by simp) cx a w hS (Ext.refl w hS.wf) he rfl)
  | .region id ops false, hok => by
    intro cx S w e a rs Q hv hS he hk
    simp only [evC] at hv
    refine wp_region ?_
    simp only [Option.map_eq_some_iff] at hv
    obtain ⟨rs0, hev, rfl⟩ := hv
    have := opsL_sound hR hh (Q := Q) (nt := nt) (ops := ops) ops.toList 0 (by simp) hev hS he (fun r hr => by
      have hk' := hk (ofStp e r) (List.mem_map.2 ⟨r, hr, rfl⟩)
      cases r with
      | go e' S' => exact fun cx' a' w' q1 q2 q3 q4 => hk' cx' a' w' q1 q2 q3 q4
      | stop v S' => exact fun cx' a' w' u q1 q2 q3 q4 => hk' cx' a' w' u q1 q2 q3 q4)
    simpa using this
  | .region id ops true, hok => by
    intro cx S w e a rs Q hv hS he hk
    simp only [evC] at hv
    split at hv
    · rename_i ks e' S' hev
      cases hpk : pairsOk ops ks with
      | false => rw [hpk] at hv; cases hv
      | true =>
        rw [hpk] at hv
        simp only [cond_true, Option.some.injEq] at hv; subst hv
        simp only [codeOk, Bool.not_true, Bool.false_or] at hok
        obtain ⟨d1, d2⟩ := drew_sound hR.toObjOk hS
        refine wp_region_any hm ?_
        have hkj : ∀ j d, ks[j]? = some d → (kinds ks).getD j 2 = kindOf ((ks.map (·.ids)).flatten) d := fun j d hj => by
          simp only [kinds, List.getD, List.getElem?_map, hj, Option.map_some, Option.getD_some]
          rfl
        obtain ⟨hi, hlen⟩ := evOpsK_run (K := fun i => (kinds ks).getD i 2) (I := (ks.map (·.ids)).flatten) hp ops.toList 0 (by simp) hev (fun j d hj => by rw [Nat.zero_add]; exact hkj j d hj) (fun d hd id hid => List.mem_flatten.2 ⟨d.ids, List.mem_map.2 ⟨d, hd, rfl⟩, hid⟩)
        have hfl : ((List.range ops.size).filter fun i => !(Array.replicate ops.size false).getD i false) = List.range ops.size := by
          rw [List.filter_eq_self]; intro i hi; rw [rep_false]; rfl
        have hK : ∀ i k, k < i → i < ops.size → ((Region.before ops).getD i 0).testBit k = true ∨ okK ((kinds ks).getD k 2) ((kinds ks).getD i 2) = true := by
          intro i k hk hi
          unfold pairsOk at hpk
          simp only [Bool.or_eq_true] at hpk
          rcases hpk with q | q
          · right
            have hle : ∀ j, j < ops.size → (kinds ks).getD j 2 ≤ 1 := fun j hj => by
              have hjl : j < ks.length := by rw [hlen]; simpa using hj
              have hk1 := Nat.le_of_ble_eq_true (List.all_eq_true.1 q ks[j] (List.getElem_mem hjl))
              rw [hkj j _ (List.getElem?_eq_getElem hjl)]
              unfold kindOf
              cases hb : Nat.beq ks[j].k 2 with
              | false => exact hk1
              | true => have := Nat.eq_of_beq_eq_true hb; omega
            have h1 := hle k (by omega)
            have h2 := hle i hi
            generalize (kinds ks).getD k 2 = x at h1 ⊢
            generalize (kinds ks).getD i 2 = y at h2 ⊢
            match x, y, h1, h2 with
            | 0, _, _, _ => rfl
            | 1, 0, _, _ => rfl
            | 1, 1, _, _ => rfl
          · have := List.all_eq_true.1 q i (List.mem_range.2 hi)
            have := List.all_eq_true.1 this k (List.mem_range.2 hk)
            simpa only [Bool.or_eq_true] using this
        refine draw_any hR (det_ok hh) hok hK ops.size (Array.replicate ops.size false) (cx := cx) (S := S) (S' := S') (w := w.drew) (e := e) (e' := e') (by simp) (fun j hj => by rw [rep_false] at hj; cases hj) (by rw [hfl]; simp) (by rw [hfl]; simpa using hi) d1 (he.mono d2) (fun cx' a' w' e'' q1 q2 q3 q4 q5 => ?_)
        exact hk (.normal, e', S') (by simp) cx' a' w' q1 (d2.trans q2) ⟨q3.size, fun t x hx => q3.rel t x (by rw [q4 t]; exact hx)⟩ q5
    · cases hv
  | .seq x y, hok => by
    simp only [codeOk, Bool.and_eq_true] at hok
    intro cx S w e a rs Q hv hS he hk
    simp only [evC] at hv
    refine wp_seq ?_
    split at hv
    · rename_i rs0 hx
      refine evC_sound hR hm hh hp x hok.1 cx S w e a rs0 _ hx hS he (fun r hr => ?_)
      obtain ⟨rs1, h1, h2⟩ := bindL_mem hv r hr
      obtain ⟨x1, e', S'⟩ := r
      cases x1 with
      | normal =>
        intro cx' a' w' q1 q2 q3 q4
        exact evC_sound hR hm hh hp y hok.2 cx' S' w' e' a' rs1 Q h1 q1 q3 (fun r hr => (hk r (h2 r hr)).trans q2 q4)
      | exit id => simp only [Option.some.injEq] at h1; subst h1; exact hk _ (h2 _ (List.mem_singleton.2 rfl))
      | ret => simp only [Option.some.injEq] at h1; subst h1; exact hk _ (h2 _ (List.mem_singleton.2 rfl))
      | panic v => simp only [Option.some.injEq] at h1; subst h1; exact hk _ (h2 _ (List.mem_singleton.2 rfl))
    · cases hv
  | .cond c x y, hok => by
    simp only [codeOk, Bool.and_eq_true] at hok
    intro cx S w e a rs Q hv hS he hk
    simp only [evC] at hv
    split at hv
    · rename_i hc
      exact wp_cond_true ((he.eval c _ hc).bool) (evC_sound hR hm hh hp x hok.1 cx S w e a rs Q hv hS he hk)
    · rename_i hc
      exact wp_cond_false ((he.eval c _ hc).bool) (evC_sound hR hm hh hp y hok.2 cx S w e a rs Q hv hS he hk)
    · cases hv
  | .block id c, hok => by
    simp only [codeOk] at hok
    intro cx S w e a rs Q hv hS he hk
    simp only [evC, Option.map_eq_some_iff] at hv
    obtain ⟨rs0, hx, rfl⟩ := hv
    refine wp_block ?_
    refine evC_sound hR hm hh hp c hok cx S w e a rs0 _ hx hS he (fun r hr => ?_)
    have hk' := hk _ (List.mem_map.2 ⟨r, hr, rfl⟩)
    obtain ⟨x1, e', S'⟩ := r
    cases x1 with
    | normal => exact hk'
    | exit j =>
      simp only at hk'
      by_cases hj : j = id
      · subst hj
        rw [if_pos rfl] at hk'
        intro cx' a' w' q1 q2 q3 q4
        simp only [Exit.inBlock, if_true]
        exact hk' cx' a' w' q1 q2 q3 q4
      · rw [if_neg hj] at hk'
        intro cx' a' w' q1 q2 q3 q4
        simp only [Exit.inBlock, if_neg hj]
        exact hk' cx' a' w' q1 q2 q3 q4
    | ret => exact hk'
    | panic v => exact hk'
  | .loop c, hok => by
    simp only [codeOk] at hok
    intro cx S w e a rs Q hv hS he hk b k cs
    simp only [evC] at hv
    have he' : ERel cx S w nt (AL.tidy e []) a := ⟨he.size, fun t x hx => he.rel t x (by rw [AL.get_tidy] at hx; simpa using hx)⟩
    obtain ⟨x, a', w', q, harr⟩ := loop_sound (evC_sound hR hm hh hp c hok) n cx S w _ a rs Q hv hS he' hk b k cs
    exact ⟨x, a', w', q, .of_steps (.one step_loop) harr⟩
  | .rangeFunc _ _ _ _, _ => by intro cx S w e a rs Q hv; simp [evC] at hv
  | .scope _, _ => by intro cx S w e a rs Q hv; simp [evC] at hv
  | .label _, _ => by intro cx S w e a rs Q hv; simp [evC] at hv
  | .goto _, _ => by intro cx S w e a rs Q hv; simp [evC] at hv
  | .refuse _, _ => by intro cx S w e a rs Q hv; simp [evC] at hv

end Go.Ev

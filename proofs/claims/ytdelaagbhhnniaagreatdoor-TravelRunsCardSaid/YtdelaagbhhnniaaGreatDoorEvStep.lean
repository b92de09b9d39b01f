import Derived.Test.YtdelaagbhhnniaaGreatDoorEvOper2
import Derived.Orders
namespace Go.Ev
set_option linter.unusedVariables false
set_option linter.unusedSimpArgs false

/-- The slots. -/
structure ERel (cx : Cx) (S : St) (w : World) (nt : Nat) (e : Env) (a : Act) : Prop where
  size : nt ≤ a.tmps.size
  rel : ∀ t x, AL.get e t = some x → ∃ v, a.tmps[t]? = some v ∧ ARel cx S w x v

theorem ERel.mono {cx cx' : Cx} {S S' : St} {w w' : World} {nt : Nat} {e : Env} {a : Act} (h : ERel cx S w nt e a) (x : Ext cx S w cx' S' w') : ERel cx' S' w' nt e a :=
  ⟨h.size, fun t y hy => let ⟨v, h1, h2⟩ := h.rel t y hy; ⟨v, h1, h2.mono x⟩⟩

theorem ERel.put {cx : Cx} {S : St} {w : World} {nt : Nat} {e e' : Env} {a : Act} {dst : Option Nat} {x : AV} {v : Value} (h : ERel cx S w nt e a) (hp : Env.put nt e dst x = some e') (hx : ARel cx S w x v) : ERel cx S w nt e' (a.put dst v) := by
  unfold Env.put at hp
  split at hp
  · rename_i t
    cases hb : Nat.blt t nt with
    | false => rw [hb] at hp; cases hp
    | true =>
      rw [hb] at hp
      simp at hp; subst hp
      have hlt : t < nt := Nat.le_of_ble_eq_true hb
      refine ⟨by simp [Act.put, h.size], fun u y hy => ?_⟩
      rw [AL.get_cons] at hy
      by_cases hu : t = u
      · subst hu
        rw [if_pos rfl] at hy
        cases hy
        refine ⟨v, ?_, hx⟩
        have := h.size
        simp [Act.put, show t < a.tmps.size by omega]
      · rw [if_neg hu] at hy
        obtain ⟨z, h1, h2⟩ := h.rel u y hy
        exact ⟨z, by simpa [Act.put, Array.getElem?_setIfInBounds_ne hu] using h1, h2⟩
  · simp at hp; subst hp; exact h

theorem ERel.del {cx : Cx} {S : St} {w : World} {nt : Nat} {e : Env} {a : Act} (h : ERel cx S w nt e a) (t : Nat) (v : Value) : ERel cx S w nt (AL.del e t) (a.put (some t) v) := by
  refine ⟨by simp [Act.put, h.size], fun u y hy => ?_⟩
  rw [AL.get_del] at hy
  by_cases hu : t = u
  · rw [if_pos hu] at hy; cases hy
  · rw [if_neg hu] at hy
    obtain ⟨z, h1, h2⟩ := h.rel u y hy
    exact ⟨z, by simpa [Act.put, Array.getElem?_setIfInBounds_ne hu] using h1, h2⟩

theorem ERel.eval {cx : Cx} {S : St} {w : World} {nt : Nat} {e : Env} {a : Act} (h : ERel cx S w nt e a) : ρRel cx S w (evalO e) a.eval := by
  intro x y hy
  cases x <;> simp only [evalO] at hy
  case tmp t =>
    obtain ⟨v, h1, h2⟩ := h.rel t y hy
    simpa [Act.eval, h1] using h2
  case const v =>
    simp only [Option.map_eq_some_iff] at hy
    obtain ⟨z, hz, rfl⟩ := hy
    exact .d _ _ (ofConst_sound hz w cx.fr)
  case global g => cases hy
  case func f =>
    simp at hy; subst hy
    exact ARel.fn (cx := cx) (S := S) (w := w) f [] [] rfl (by simp)

theorem wanted_sound {cx : Cx} {S : St} {w : World} {nt : Nat} {e : Env} {a : Act} {ops : Array Oper} {o : Oper} {b : Bool} (h : ERel cx S w nt e a) (hw : wantedE ops e o = some b) : Region.wanted o (yielded ops a.tmps) = b := by
  unfold wantedE at hw
  unfold Region.wanted
  split at hw
  · rename_i hg; simp at hw; subst hw; simp [hg]
  · rename_i j want hg
    split at hw
    · rename_i oj hj
      split at hw
      · rename_i t ht
        split at hw
        · rename_i c hc
          simp at hw; subst hw
          obtain ⟨v, h1, h2⟩ := h.rel t _ hc
          have := h2.bool; subst this
          simp only [hg, yielded, hj, Option.bind_some, ht, h1]
          cases c <;> cases want <;> rfl
        · rename_i hc
          simp at hw; subst hw
          obtain ⟨v, h1, h2⟩ := h.rel t _ hc
          cases h2 with
          | tup _ vs hl _ =>
            have : vs = [] := List.eq_nil_of_length_eq_zero hl
            subst this
            simp only [hg, yielded, hj, Option.bind_some, ht, h1]
            cases want <;> rfl
        · cases hw
      · cases hw
    · cases hw

/-- How a call ends. -/
def EndOk (cx : Cx) (S : St) (w : World) (p : Option AV) (v : AV) (e : Ending) : Prop :=
  match p with
  | none => ∃ u, e = .returned u ∧ ARel cx S w v u
  | some pv => ∃ u, e = .panicked [{ v := u, recovered := false }] ∧ ARel cx S w pv u

/-- What is asked of what makes calls. -/
def HandOk (R : ObjR) (P : Program) (h : Hand) : Prop :=
  ∀ f args S p v S', h f args S = some (p, v, S') → (∃ fn, P.funcs[f]? = some fn ∧ fn.body.isSome = true ∧ fn.name ≠ "runtime.NumGoroutine") ∧
    ∀ cx w (us : List Value), SRel R cx S w → us.length = args.length → (∀ (i : Nat) (x : AV) (u : Value), args[i]? = some x → us[i]? = some u → ARel cx S w x u) →
    Calls P f us.toArray w (fun e w' => ∃ cx', SRel R cx' S' w' ∧ Ext cx S w cx' S' w' ∧
      EndOk cx' S' w' p v e)

/-- What follows one operation. -/
def After (R : ObjR) (cx : Cx) (S : St) (w : World) (nt : Nat) (a : Act) (K : Act → World → Prop) (Q : Exit → Act → World → Prop) : Stp → Prop
  | .go e' S' => ∀ cx' a' w', SRel R cx' S' w' → Ext cx S w cx' S' w' → ERel cx' S' w' nt e' a' → a'.defers = a.defers → K a' w'
  | .stop v S' => ∀ cx' w' u, SRel R cx' S' w' → Ext cx S w cx' S' w' → ARel cx' S' w' v u → Q (.panic [{ v := u, recovered := false }]) a w'

theorem put_defers (a : Act) (d : Option Nat) (v : Value) : (a.put d v).defers = a.defers := by cases d <;> rfl

theorem step_sound {R : ObjR} {C : Cfg} (hR : ObjOkC R C) {h : Hand} (hh : HandOk R C.P h) {cx : Cx} {S : St} {w : World} {nt : Nat} {e : Env} {a : Act} {ops : Array Oper} {o : Oper} {r : Stp}
    (hs : stepE C h nt ops o e S = some r) (hS : SRel R cx S w) (he : ERel cx S w nt e a) {K : Act → World → Prop} {Q : Exit → Act → World → Prop} (hk : After R cx S w nt a K Q r) {i : Nat} (hi : ops[i]? = some o) :
    wpOp C.P ops Q i K a w := by
  unfold wpOp
  rw [hi]
  simp only
  unfold stepE at hs
  have hrefl := Ext.refl (cx := cx) w hS.wf
  split at hs
  · rename_i hw
    rw [if_pos (wanted_sound he hw)]
    left
    split at hs
    · rename_i v S' hop
      obtain ⟨cx', w', u, h1, h2, h3, h4⟩ := oper_sound hR hS he.eval o hop
      split at hs
      · rename_i e' hp
        simp only [Option.some.injEq] at hs; subst hs
        unfold Oper.wp
        rw [h1]
        exact hk cx' _ w' h2 h3 ((he.mono h3).put hp h4) (put_defers _ _ _)
      · cases hs
    · rename_i S' hop
      obtain ⟨cx', w', h1, h2, h3⟩ := oper_sound hR hS he.eval o hop
      split at hs
      · rename_i hd
        simp only [Option.some.injEq] at hs; subst hs
        unfold Oper.wp
        rw [h1]
        show K (a.put o.dst undef) w'
        rw [hd]
        exact hk cx' _ w' h2 h3 (he.mono h3) rfl
      · cases hs
    · rename_i f args hop
      obtain ⟨us, h1, h2, h3⟩ := oper_sound hR hS he.eval o hop
      split at hs
      · rename_i v S' hc
        obtain ⟨⟨fn, f1, f2, f3⟩, hcalls⟩ := hh f args S _ v S' hc
        split at hs
        · rename_i e' hp
          simp only [Option.some.injEq] at hs; subst hs
          unfold Oper.wp
          rw [h3 fn f1 f2 f3]
          refine (hcalls cx w us hS h1 h2).mono (fun en w' hen => ?_)
          obtain ⟨cx', k1, k2, u, rfl, k3⟩ := hen
          exact hk cx' _ w' k1 k2 ((he.mono k2).put hp k3) (put_defers _ _ _)
        · cases hs
      · rename_i p v S' hc
        obtain ⟨⟨fn, f1, f2, f3⟩, hcalls⟩ := hh f args S _ v S' hc
        simp only [Option.some.injEq] at hs; subst hs
        unfold Oper.wp
        rw [h3 fn f1 f2 f3]
        refine (hcalls cx w us hS h1 h2).mono (fun en w' hen => ?_)
        obtain ⟨cx', k1, k2, u, rfl, k3⟩ := hen
        exact hk cx' w' u k1 k2 k3
      · cases hs
    · cases hs
    · cases hs
  · rename_i hw
    rw [if_neg (by rw [wanted_sound he hw]; simp)]
    split at hs
    · rename_i hd
      simp only [Option.some.injEq] at hs; subst hs
      rw [hd]
      exact hk cx _ w hS hrefl he rfl
    · rename_i t hd
      split at hs
      · rename_i e1 hput
        simp only [Option.some.injEq] at hs; subst hs
        rw [hd]
        exact hk cx _ w hS hrefl (he.put hput (.tup [] [] rfl (fun i x v hx => by simp at hx))) (put_defers _ _ _)
      · cases hs
  · cases hs

/-- A region whose order is the text's. -/
theorem ops_sound {R : ObjR} {C : Cfg} (hR : ObjOkC R C) {h : Hand} (hh : HandOk R C.P h) {nt : Nat} {ops : Array Oper} {Q : Exit → Act → World → Prop} : ∀ (l : List Oper) (k : Nat) {cx : Cx} {S : St} {w : World} {e : Env} {a : Act} {r : Stp},
    (∀ j, l[j]? = ops[k + j]?) → evOps C h nt ops l e S = some r → SRel R cx S w → ERel cx S w nt e a →
    (match r with
      | .go e' S' => ∀ cx' a' w', SRel R cx' S' w' → Ext cx S w cx' S' w' → ERel cx' S' w' nt e' a' → a'.defers = a.defers → Q .normal a' w'
      | .stop v S' => ∀ cx' a' w' u, SRel R cx' S' w' → Ext cx S w cx' S' w' → ARel cx' S' w' v u → a'.defers = a.defers → Q (.panic [{ v := u, recovered := false }]) a' w') →
    wpOps C.P ops Q ((List.range l.length).map (k + ·)) a w
  | [], k, cx, S, w, e, a, r, hl, hev, hS, he, hk => by
    simp only [evOps, Option.some.injEq] at hev; subst hev
    exact hk cx a w hS (Ext.refl w hS.wf) he rfl
  | o :: l, k, cx, S, w, e, a, r, hl, hev, hS, he, hk => by
    have h0 : ops[k]? = some o := by simpa using (hl 0).symm
    rw [List.length_cons, List.range_succ_eq_map, List.map_cons, wpOps_cons, Nat.add_zero]
    simp only [evOps] at hev
    split at hev
    · rename_i e' S' hst
      refine step_sound hR hh hst hS he (fun cx1 a1 w1 s1 x1 r1 d1 => ?_) h0
      have ih := ops_sound hR hh (Q := Q) l (k + 1) (cx := cx1) (S := S') (w := w1) (e := e') (a := a1) (r := r) (fun j => by have := hl (j + 1); simpa [Nat.add_assoc, Nat.add_comm 1 j] using this) hev s1 r1 (by
        cases r with
        | go e2 S2 => exact fun cx' a' w' q1 q2 q3 q4 => hk cx' a' w' q1 (x1.trans q2) q3 (q4.trans d1)
        | stop v S2 => exact fun cx' a' w' u q1 q2 q3 q4 => hk cx' a' w' u q1 (x1.trans q2) q3 (q4.trans d1))
      rw [List.map_map]
      have : ((fun x => k + x) ∘ Nat.succ) = (fun x => k + 1 + x) := by funext x; simp; omega
      rw [this]; exact ih
    · rename_i v S' hst
      simp only [Option.some.injEq] at hev; subst hev
      exact step_sound hR hh hst hS he (fun cx1 w1 u s1 x1 r1 => hk cx1 a w1 u s1 x1 r1 rfl) h0
    · cases hev

end Go.Ev

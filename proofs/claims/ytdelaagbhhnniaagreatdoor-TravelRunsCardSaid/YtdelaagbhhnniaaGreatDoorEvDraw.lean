import Derived.Test.YtdelaagbhhnniaaGreatDoorEvSame
import Derived.Test.YtdelaagbhhnniaaGreatDoorEvStep
namespace Go.Ev
set_option linter.unusedVariables false
set_option linter.unusedSimpArgs false

/-- 0: looks at its operands alone; 1: reads the memory; 2: writes it. -/
def isVal (S : St) (S' : St) (a b : Option Nxt) : Prop := ∀ nx, a = some nx → ∃ v, nx = .val v S ∧ b = some (.val v S')

theorem AL.has_false {α : Type} : ∀ {l : AL α} {n : Nat}, AL.has l n = false → AL.get l n = none
  | [], _, _ => rfl
  | (k, v) :: l, n, h => by
    simp only [AL.has] at h
    cases hb : Nat.beq k n with
    | true => rw [hb] at h; cases h
    | false =>
      rw [hb] at h
      simp only [AL.get, hb, cond_false]
      exact AL.has_false h

theorem cls_bs {C : Cfg} {t len : Nat} {ps : Array (Nat × Operand)} (h0 : ¬ cls C (.buildSlice t len ps) = 0) (hc : cls C (.buildSlice t len ps) ≤ 1) : False := by
  unfold cls at h0 hc
  cases h : asRow C t len <;> simp [h] at h0 hc

theorem buildRow_val {C : Cfg} {t len : Nat} {S : St} {ps : List (Nat × AV)} {nx : Nxt} (h : opBuildRow C t S len ps = some nx) : S.H.get S.nx = none ∧ ∃ v b, nx = .val v (newBlk S b) := by
  unfold opBuildRow at h
  split at h
  · split at h
    · split at h
      · cases hh : S.H.has S.nx with
        | true => simp [hh] at h
        | false =>
          simp only [hh, cond_false, Option.map_eq_some_iff] at h
          obtain ⟨z, _, rfl⟩ := h
          exact ⟨AL.has_false hh, _, _, rfl⟩
      · cases h
    · cases h
  · cases h

theorem cls0 {C : Cfg} {ρ : Operand → Option AV} {op : Op} (hc : cls C op = 0) (S S' : St) : isVal S S' (oper C ρ S op) (oper C ρ S' op) := by
  intro nx h
  cases op
  case buildSlice t len ps =>
    have hr : asRow C t len = false := by unfold cls at hc; cases hq : asRow C t len <;> simp [hq] at hc ⊢
    simp only [oper, hr, cond_false] at h ⊢
    (repeat' split at h) <;> first
      | (cases h; done)
      | (simp only [Option.map_eq_some_iff] at h; obtain ⟨a, ha, rfl⟩ := h; exact ⟨_, rfl, by simp_all⟩)
  all_goals simp only [cls] at hc
  all_goals try (cases hc; done)
  case call c =>
    obtain ⟨callee, args, ats⟩ := c
    cases callee <;> try (exact absurd (show (2 : Nat) = 0 from hc) (by omega))
    rename_i b
    cases b <;> try (first | exact absurd (show (2 : Nat) = 0 from hc) (by omega) | exact absurd (show (1 : Nat) = 0 from hc) (by omega))
    all_goals
      simp only [oper] at h ⊢
      split at h
      · simp only [builtinAV, Option.map_eq_some_iff] at h ⊢
        obtain ⟨a, ha, rfl⟩ := h
        exact ⟨_, rfl, by simp_all⟩
      · cases h
  all_goals
    simp only [oper] at h ⊢
    (repeat' split at h) <;> first
      | (cases h; done)
      | (simp only [Option.some.injEq] at h; subst h; exact ⟨_, rfl, by simp_all⟩)
      | (simp only [Option.map_eq_some_iff] at h; obtain ⟨a, ha, rfl⟩ := h; exact ⟨_, rfl, by simp_all⟩)

theorem cls1 {C : Cfg} {ρ : Operand → Option AV} {op : Op} (hc : cls C op ≤ 1) (S : St) {nx : Nxt} (h : oper C ρ S op = some nx) : ∃ v, nx = .val v S := by
  by_cases h0 : cls C op = 0
  · obtain ⟨v, h1, _⟩ := cls0 h0 S S nx h; exact ⟨v, h1⟩
  · cases op <;> try (first | exact absurd rfl h0 | exact absurd (show (2 : Nat) ≤ 1 from hc) (by omega) | exact (cls_bs h0 hc).elim)
    case load t a =>
      simp only [oper] at h
      split at h
      · simp only [Option.map_eq_some_iff] at h
        obtain ⟨r, hr, rfl⟩ := h
        exact ⟨r, rfl⟩
      · cases h
    case lookup t m k ok =>
      simp only [oper] at h
      split at h
      · simp only [Option.map_eq_some_iff] at h
        obtain ⟨r, hr, rfl⟩ := h
        exact ⟨r, rfl⟩
      · cases h
    case call c =>
      obtain ⟨callee, args, ats⟩ := c
      cases callee <;> try (exact absurd (show (2 : Nat) ≤ 1 from hc) (by omega))
      rename_i b
      cases b <;> try (first | exact absurd rfl h0 | exact absurd (show (2 : Nat) ≤ 1 from hc) (by omega))
      simp only [oper] at h
      split at h
      · simp only [builtinAV] at h
        (repeat' split at h) <;> first
          | (cases h; done)
          | (simp only [Option.map_eq_some_iff] at h; obtain ⟨a, ha, rfl⟩ := h; exact ⟨_, rfl⟩)
          | contradiction
      · cases h

theorem mapO_congr {α β : Type} {f g : α → Option β} : ∀ {l : List α}, (∀ x ∈ l, f x = g x) → mapO f l = mapO g l
  | [], _ => rfl
  | x :: l, h => by
    simp only [mapO]
    rw [h x (by simp), mapO_congr (fun y hy => h y (by simp [hy]))]

theorem oper_congr {C : Cfg} {ρ ρ' : Operand → Option AV} (S : St) (op : Op) (h : ∀ x ∈ op.operands, ρ x = ρ' x) : oper C ρ S op = oper C ρ' S op := by
  cases op <;> simp only [Op.operands] at h <;> simp only [oper]
  case build t ps =>
    have : evals ρ ps = evals ρ' ps := mapO_congr fun p hp => by rw [h p.2 (by simp; exact ⟨p.1, by simpa using hp⟩)]
    rw [this]
  case buildSlice t n ps =>
    have : evals ρ ps = evals ρ' ps := mapO_congr fun p hp => by rw [h p.2 (by simp; exact ⟨p.1, by simpa using hp⟩)]
    rw [this]
  case makeFunc fn first caps =>
    have : mapO ρ caps.toList = mapO ρ' caps.toList := mapO_congr fun p hp => h p (by simp; exact .inr (by simpa using hp))
    rw [this]
  case call c =>
    have ha : mapO ρ c.args.toList = mapO ρ' c.args.toList := mapO_congr fun p hp => h p (by simp only [Call.operands]; exact Array.mem_append.2 (.inr (by simpa using hp)))
    rw [ha]
    cases hc : c.callee with
    | value f => have : ρ f = ρ' f := h f (by simp [Call.operands, hc]); simp only [this]
    | invoke r m => rfl
    | builtin b => rfl
  case makeMap t r =>
    cases r with
    | none => rfl
    | some o => have he : ρ o = ρ' o := h o (by simp); simp only [he]
  case slice t x lo hi mx =>
    have hx : ρ x = ρ' x := h x (by simp)
    have hl : dOpt ρ lo = dOpt ρ' lo := by cases lo <;> simp only [dOpt]; rw [h _ (by simp)]
    have hh : dOpt ρ hi = dOpt ρ' hi := by cases hi <;> simp only [dOpt]; rw [h _ (by simp)]
    have hm : dOpt ρ mx = dOpt ρ' mx := by cases mx <;> simp only [dOpt]; rw [h _ (by simp)]
    rw [hx, hl, hh, hm]
  case pick c a b =>
    rw [h c (by simp)]
    cases ρ' c with
    | none => rfl
    | some v =>
      cases v <;> try rfl
      rename_i x
      cases x <;> try rfl
      rename_i t
      cases t
      · simp only [Bool.false_eq_true, if_false]; rw [h b (by simp)]
      · simp only [if_true]; rw [h a (by simp)]
  all_goals (first | rfl | (simp only [h _ (by simp : _ ∈ _)]; done) | (simp_all; done))

/-- The two agree in every slot. -/
def Eqv (e e' : Env) : Prop := ∀ t, AL.get e t = AL.get e' t
/-- One slot is turned. -/
def Upd (e : Env) (dst : Option Nat) (x : Option AV) (e' : Env) : Prop := ∀ t, AL.get e' t = if dst = some t then x else AL.get e t

theorem Upd.put {nt : Nat} {e e' : Env} {dst : Option Nat} {v : AV} (h : Env.put nt e dst v = some e') : Upd e dst (some v) e' := by
  unfold Env.put at h
  split at h
  · rename_i t
    cases hb : Nat.blt t nt with
    | false => rw [hb] at h; cases h
    | true =>
      rw [hb] at h; simp at h; subst h
      intro u; rw [AL.get_cons]
      by_cases hu : t = u <;> simp [hu]
  · simp at h; subst h; intro u; simp

theorem put_any {nt : Nat} {e e' : Env} {dst : Option Nat} {v : AV} (h : Env.put nt e dst v = some e') (e2 : Env) : ∃ e2', Env.put nt e2 dst v = some e2' := by
  unfold Env.put at h ⊢
  split at h
  · rename_i t
    cases hb : Nat.blt t nt with
    | false => rw [hb] at h; cases h
    | true => exact ⟨_, rfl⟩
  · exact ⟨_, rfl⟩

theorem Upd.del (e : Env) (t : Nat) : Upd e (some t) none (AL.del e t) := by
  intro u; rw [AL.get_del]; by_cases hu : t = u <;> simp [hu]
theorem Upd.none (e : Env) (x : Option AV) : Upd e none x e := by intro u; simp

theorem evalO_agree {e e2 : Env} {ops : Array Oper} {o : Oper} (h : ∀ t ∈ o.looksAt ops, AL.get e2 t = AL.get e t) : ∀ x ∈ o.op.operands, evalO e x = evalO e2 x := by
  intro x hx
  cases x <;> try rfl
  rename_i t
  simp only [evalO]
  exact (h t (List.mem_append_left _ (List.mem_filterMap.2 ⟨.tmp t, by simpa using hx, rfl⟩))).symm

theorem wanted_agree {e e2 : Env} {ops : Array Oper} {o : Oper} (h : ∀ t ∈ o.looksAt ops, AL.get e2 t = AL.get e t) : wantedE ops e2 o = wantedE ops e o := by
  unfold wantedE
  cases hg : o.guard with
  | none => rfl
  | some p =>
    obtain ⟨j, want⟩ := p
    simp only
    cases hj : ops[j]? with
    | none => rfl
    | some oj =>
      simp only
      cases ht : oj.dst with
      | none => rfl
      | some t =>
        simp only
        rw [h t (by unfold Oper.looksAt; rw [hg]; simp [hj, ht])]

theorem step_congr {C : Cfg} {h : Hand} {nt : Nat} {ops : Array Oper} {o : Oper} {e e' e2 : Env} {S S' : St} (hs : stepE C h nt ops o e S = some (.go e' S')) (ha : ∀ t ∈ o.looksAt ops, AL.get e2 t = AL.get e t) :
    ∃ x e2', stepE C h nt ops o e2 S = some (.go e2' S') ∧ Upd e o.dst x e' ∧ Upd e2 o.dst x e2' := by
  have hop : oper C (evalO e2) S o.op = oper C (evalO e) S o.op := oper_congr S o.op (fun x hx => (evalO_agree ha x hx).symm)
  unfold stepE at hs ⊢
  rw [wanted_agree ha, hop]
  split at hs
  · split at hs
    · rename_i v S1 ho
      split at hs
      · rename_i e1 hp
        simp only [Option.some.injEq, Stp.go.injEq] at hs
        obtain ⟨rfl, rfl⟩ := hs
        obtain ⟨e2', h2⟩ := put_any hp e2
        exact ⟨some v, e2', by simp [h2], Upd.put hp, Upd.put h2⟩
      · cases hs
    · rename_i S1 ho
      split at hs
      · rename_i hd
        simp only [Option.some.injEq, Stp.go.injEq] at hs
        obtain ⟨rfl, rfl⟩ := hs
        refine ⟨.none, e2, by simp, ?_, ?_⟩ <;> (rw [hd]; exact Upd.none _ _)
      · cases hs
    · rename_i f args ho
      split at hs
      · rename_i v S1 hc
        split at hs
        · rename_i e1 hp
          simp only [Option.some.injEq, Stp.go.injEq] at hs
          obtain ⟨rfl, rfl⟩ := hs
          obtain ⟨e2', h2⟩ := put_any hp e2
          exact ⟨some v, e2', by simp [h2], Upd.put hp, Upd.put h2⟩
        · cases hs
      · cases hs
      · cases hs
    · cases hs
    · cases hs
  · split at hs
    · rename_i hd
      simp only [Option.some.injEq, Stp.go.injEq] at hs
      obtain ⟨rfl, rfl⟩ := hs
      refine ⟨.none, e2, by simp, ?_, ?_⟩ <;> (rw [hd]; exact Upd.none _ _)
    · rename_i t hd
      split at hs
      · rename_i e1 hput
        simp only [Option.some.injEq, Stp.go.injEq] at hs
        obtain ⟨rfl, rfl⟩ := hs
        obtain ⟨e2', h2⟩ := put_any hput e2
        refine ⟨some (.tup []), e2', by simp [h2], ?_, ?_⟩
        · rw [hd]; exact Upd.put hput
        · rw [hd]; exact Upd.put h2
      · cases hs
  · cases hs

/-- A call leaves the memory out, if all that it takes and gives is data. -/
def PureOk (h : Hand) : Prop := ∀ f args S v S', h f args S = some (none, v, S') → (toDs args).isSome = true → (toDT v).isSome = true → ∀ S2, h f args S2 = some (none, v, S2)

/-- The operation does the same in every memory. -/
def Z0 (C : Cfg) (h : Hand) (nt : Nat) (ops : Array Oper) (o : Oper) (e : Env) : Prop :=
  ∃ x : Option AV, ∀ e2 : Env, (∀ t ∈ o.looksAt ops, AL.get e2 t = AL.get e t) → ∀ S2, ∃ e2', stepE C h nt ops o e2 S2 = some (.go e2' S2) ∧ Upd e2 o.dst x e2'

theorem Z0.agree {C : Cfg} {h : Hand} {nt : Nat} {ops : Array Oper} {o : Oper} {e f : Env} (z : Z0 C h nt ops o e) (ha : ∀ t ∈ o.looksAt ops, AL.get f t = AL.get e t) : Z0 C h nt ops o f := by
  obtain ⟨x, hx⟩ := z
  exact ⟨x, fun e2 h2 => hx e2 (fun t ht => (h2 t ht).trans (ha t ht))⟩

theorem builtin_val {C : Cfg} {b : Builtin} {A : Array Nat} {S : St} {args : List AV} {nx : Nxt} (h : builtinAV C b A S args = some nx) : ∃ v S', nx = .val v S' := by
  have hm : ∀ {α : Type} {o : Option α} {g : α → AV} {k : α → St}, o.map (fun r => Nxt.val (g r) (k r)) = some nx → ∃ v S', nx = .val v S' := by
    intro α o g k hq
    simp only [Option.map_eq_some_iff] at hq
    obtain ⟨r, _, rfl⟩ := hq
    exact ⟨_, _, rfl⟩
  unfold builtinAV at h
  split at h
  · split at h
    · split at h
      · exact hm h
      · cases h
    · cases h
  · split at h
    · rename_i t ht
      cases ht2 : A[1]? with
      | none => simp [ht2] at h
      | some t2 =>
        simp only [ht2] at h
        by_cases hsrc : okSrc C t2 = true
        · rw [if_pos hsrc] at h
          split at h
          · split at h
            · exact hm h
            · cases hr : C.rowT t with
              | true =>
                simp only [hr, cond_true] at h
                split at h
                · exact hm h
                · exact hm h
                · cases h
              | false =>
                simp only [hr, cond_false] at h
                split at h
                · exact hm h
                · split at h
                  · exact hm h
                  · cases h
          · cases h
        · rw [if_neg hsrc] at h; cases h
    · cases h
  · split at h
    · split at h
      · unfold copyAV at h
        (repeat' split at h) <;> first
          | (cases h; done)
          | (simp only [Option.some.injEq] at h; subst h; exact ⟨_, _, rfl⟩)
      · cases h
    · cases h
  · split at h
    · split at h
      · unfold clearAV at h
        (repeat' split at h) <;> first
          | (cases h; done)
          | (simp only [Option.some.injEq] at h; subst h; exact ⟨_, _, rfl⟩)
      · cases h
    · cases h
  · split at h
    · simp only [Option.map_eq_some_iff] at h
      obtain ⟨r, _, rfl⟩ := h
      exact ⟨_, _, rfl⟩
    · cases h
  · exact hm h
  · exact hm h
  · cases h

theorem oper_call {C : Cfg} {ρ : Operand → Option AV} {op : Op} {S : St} {f : Nat} {args : List AV} (h : oper C ρ S op = some (.call f args)) (hc : ¬ cls C op ≤ 1) (S2 : St) : oper C ρ S2 op = some (.call f args) := by
  cases op <;> try (first | exact absurd (show (0 : Nat) ≤ 1 from Nat.zero_le 1) hc | exact absurd (show (1 : Nat) ≤ 1 from Nat.le_refl 1) hc)
  case call c =>
    obtain ⟨callee, as, ats⟩ := c
    cases callee with
    | value g => simpa only [oper] using h
    | invoke r m => simp only [oper] at h; cases h
    | builtin b =>
      exfalso
      simp only [oper] at h
      split at h
      · rename_i args hargs
        obtain ⟨v, S', hq⟩ := builtin_val h
        cases hq
      · cases h
  case buildSlice t len ps =>
    exfalso
    have hr : asRow C t len = true := by unfold cls at hc; cases hq : asRow C t len <;> simp [hq] at hc ⊢
    simp only [oper, hr, cond_true] at h
    split at h
    · obtain ⟨_, v, cs, hq⟩ := buildRow_val h; cases hq
    · cases h
  all_goals
    exfalso
    simp only [oper] at h
    (repeat' split at h) <;> first
      | (cases h; done)
      | (simp only [Option.map_eq_some_iff] at h; obtain ⟨a, ha, h⟩ := h; cases h; done)
      | (simp only [Option.some.injEq] at h; cases h; done)
      | (cases hh : S.H.has S.nx <;> simp [hh] at h; done)

theorem step_k {C : Cfg} {h : Hand} (hp : PureOk h) {nt : Nat} {ops : Array Oper} {o : Oper} {e e' : Env} {S S' : St} (hs : stepE C h nt ops o e S = some (.go e' S')) (hk : kOf C ops o e e' S = 0) : Z0 C h nt ops o e := by
  have skip : wantedE ops e o = some false → Z0 C h nt ops o e := fun hw => by
    refine ⟨some (.tup []), fun e2 ha S2 => ?_⟩
    unfold stepE at hs ⊢
    rw [wanted_agree ha, hw]
    rw [hw] at hs
    cases hd : o.dst with
    | none => exact ⟨e2, by simp, Upd.none _ _⟩
    | some t =>
      simp only [hd] at hs ⊢
      split at hs
      · rename_i e1 hput
        obtain ⟨e2', h2⟩ := put_any hput e2
        exact ⟨e2', by simp [h2], Upd.put h2⟩
      · cases hs
  have vals : ∀ {v : AV}, wantedE ops e o = some true → (∀ S2, oper C (evalO e) S2 o.op = some (.val v S2)) → Env.put nt e o.dst v = some e' → Z0 C h nt ops o e := fun {v} hw hv hput => by
    refine ⟨some v, fun e2 ha S2 => ?_⟩
    have hop : oper C (evalO e2) S2 o.op = oper C (evalO e) S2 o.op := oper_congr S2 o.op (fun x hx => (evalO_agree ha x hx).symm)
    obtain ⟨e2', h2⟩ := put_any hput e2
    refine ⟨e2', ?_, Upd.put h2⟩
    unfold stepE
    rw [wanted_agree ha, hw, hop, hv S2]
    simp [h2]
  unfold stepE at hs
  split at hs
  · rename_i hw
    by_cases hc : cls C o.op ≤ 1
    · have h0 : cls C o.op = 0 := by simpa [kOf, hc] using hk
      split at hs
      · rename_i v S1 ho
        split at hs
        · rename_i e1 hput
          simp only [Option.some.injEq, Stp.go.injEq] at hs
          obtain ⟨rfl, rfl⟩ := hs
          obtain ⟨v', h1, _⟩ := cls0 h0 S S _ ho
          simp only [Nxt.val.injEq] at h1
          obtain ⟨rfl, rfl⟩ := h1
          exact vals hw (fun S2 => by
            obtain ⟨v2, h2, h3⟩ := cls0 h0 S1 S2 _ ho
            simp only [Nxt.val.injEq, and_true] at h2
            subst h2; exact h3) hput
        · cases hs
      · rename_i S1 ho; obtain ⟨v', h1, _⟩ := cls0 h0 S S _ ho; cases h1
      · rename_i f args ho; obtain ⟨v', h1, _⟩ := cls0 h0 S S _ ho; cases h1
      · cases hs
      · cases hs
    · unfold kOf at hk
      rw [if_neg hc] at hk
      split at hk
      · cases hk
      · unfold kTail at hk
        rw [hw] at hk
        split at hs
        · rename_i v S1 ho; simp only [ho] at hk; cases hk
        · rename_i S1 ho; simp only [ho] at hk; cases hk
        · rename_i f args ho
          simp only [ho] at hk
          cases hcond : quietB o e' args with
          | false => rw [hcond] at hk; cases hk
          | true =>
            unfold quietB at hcond
            simp only [Bool.and_eq_true] at hcond
            obtain ⟨hargs, hres⟩ := hcond
            split at hs
            · rename_i v S1 hcall
              split at hs
              · rename_i e1 hput
                simp only [Option.some.injEq, Stp.go.injEq] at hs
                obtain ⟨rfl, rfl⟩ := hs
                have hv : (toDT v).isSome = true := by
                  cases hd : o.dst with
                  | none => rw [hd] at hres; cases hres
                  | some t =>
                    have := Upd.put hput t
                    rw [hd] at this hres
                    simp only [if_true] at this
                    simp only [this] at hres
                    exact hres
                refine ⟨some v, fun e2 ha S2 => ?_⟩
                have hop : oper C (evalO e2) S2 o.op = oper C (evalO e) S2 o.op := oper_congr S2 o.op (fun x hx => (evalO_agree ha x hx).symm)
                obtain ⟨e2', h2⟩ := put_any hput e2
                refine ⟨e2', ?_, Upd.put h2⟩
                unfold stepE
                rw [wanted_agree ha, hw, hop, oper_call ho hc S2]
                simp only [hp f args S v S1 hcall hargs hv S2, h2]
              · cases hs
            · cases hs
            · cases hs
        · cases hs
        · cases hs
  · rename_i hw; exact skip hw
  · cases hs

theorem step1 {C : Cfg} {h : Hand} {nt : Nat} {ops : Array Oper} {o : Oper} {e e' : Env} {S S' : St} (hc : cls C o.op ≤ 1) (hs : stepE C h nt ops o e S = some (.go e' S')) : S' = S := by
  unfold stepE at hs
  split at hs
  · split at hs
    · rename_i v S1 ho
      obtain ⟨v', h1⟩ := cls1 hc S ho
      simp only [Nxt.val.injEq] at h1
      obtain ⟨rfl, rfl⟩ := h1
      split at hs
      · simp only [Option.some.injEq, Stp.go.injEq] at hs; exact hs.2.symm
      · cases hs
    · rename_i S1 ho; obtain ⟨v', h1⟩ := cls1 hc S ho; cases h1
    · rename_i f args ho; obtain ⟨v', h1⟩ := cls1 hc S ho; cases h1
    · cases hs
    · cases hs
  · (repeat' split at hs) <;> first | (simp only [Option.some.injEq, Stp.go.injEq] at hs; exact hs.2.symm) | cases hs
  · cases hs

theorem kTail_or (C : Cfg) (ops : Array Oper) (o : Oper) (e e' : Env) (S : St) : kTail C ops o e e' S = 0 ∨ kTail C ops o e e' S = 2 := by
  unfold kTail
  split
  · exact .inl rfl
  · split
    · rename_i args _
      cases quietB o e' args
      · exact .inr rfl
      · exact .inl rfl
    · exact .inr rfl

theorem kOf_one {C : Cfg} {ops : Array Oper} {o : Oper} {e e' : Env} {S : St} (h : kOf C ops o e e' S = 1) : cls C o.op ≤ 1 := by
  unfold kOf at h
  split at h
  · assumption
  · split at h
    · omega
    · rcases kTail_or C ops o e e' S with q | q <;> omega
theorem kOf_new {C : Cfg} {ops : Array Oper} {o : Oper} {e e' : Env} {S : St} (h : kOf C ops o e e' S = 3) : isNew C o.op = true := by
  unfold kOf at h
  split at h
  · omega
  · split at h
    · assumption
    · rcases kTail_or C ops o e e' S with q | q <;> omega

/-- A new variable: the state behind it. -/
theorem step_new {C : Cfg} {h : Hand} {nt : Nat} {ops : Array Oper} {o : Oper} {e e' : Env} {S S' : St} (hn : isNew C o.op = true) (hs : stepE C h nt ops o e S = some (.go e' S')) :
    S' = S ∨ (S.H.get S.nx = none ∧ ∃ b, S' = newBlk S b) := by
  unfold stepE at hs
  split at hs
  · right
    have key : ∀ {nx : Nxt}, oper C (evalO e) S o.op = some nx → S.H.get S.nx = none ∧ ∃ v b, nx = .val v (newBlk S b) := by
      intro nx ho
      obtain ⟨dst, op, ty, pos, after, guard⟩ := o
      simp only at hn ho
      cases op <;> try (cases hn; done)
      case buildSlice t len ps _ =>
        have hr : asRow C t len = true := hn
        simp only [oper, hr, cond_true] at ho
        split at ho
        · exact buildRow_val ho
        · cases ho
      case range t x =>
        simp only [oper] at ho
        cases hh : S.H.has S.nx with
        | true =>
          split at ho
          · split at ho
            · simp [hh] at ho
            · cases ho
          · simp [hh] at ho
          · cases ho
        | false =>
          split at ho
          · split at ho
            · simp only [hh, cond_false, Option.some.injEq] at ho
              subst ho
              exact ⟨AL.has_false hh, _, _, rfl⟩
            · cases ho
          · simp only [hh, cond_false, Option.some.injEq] at ho
            subst ho
            exact ⟨AL.has_false hh, _, _, rfl⟩
          · cases ho
      · rename_i t
        simp only [oper] at ho
        cases hh : S.H.has S.nx with
        | true => simp [hh] at ho
        | false =>
          simp only [hh, cond_false] at ho
          split at ho
          · simp only [Option.some.injEq] at ho
            subst ho
            exact ⟨AL.has_false hh, _, _, rfl⟩
          · simp only [Option.map_eq_some_iff] at ho
            obtain ⟨z, _, rfl⟩ := ho
            exact ⟨AL.has_false hh, _, _, rfl⟩
      · rename_i t x
        simp only [oper] at ho
        split at ho
        · split at ho
          · cases hh : S.H.has S.nx with
            | true => simp [hh] at ho
            | false =>
              simp only [hh, cond_false, Option.some.injEq] at ho
              subst ho
              exact ⟨AL.has_false hh, _, _, rfl⟩
          · cases ho
        · cases ho
    split at hs
    · rename_i v S1 ho
      obtain ⟨k1, v', cs, k2⟩ := key ho
      simp only [Nxt.val.injEq] at k2
      obtain ⟨rfl, rfl⟩ := k2
      split at hs
      · simp only [Option.some.injEq, Stp.go.injEq] at hs
        exact ⟨k1, cs, hs.2.symm⟩
      · cases hs
    · rename_i S1 ho; obtain ⟨_, v', cs, k2⟩ := key ho; cases k2
    · rename_i f args ho; obtain ⟨_, v', cs, k2⟩ := key ho; cases k2
    · cases hs
    · cases hs
  · left
    (repeat' split at hs) <;> first | (simp only [Option.some.injEq, Stp.go.injEq] at hs; exact hs.2.symm) | cases hs
  · cases hs

theorem look_new {S : St} {nb : Blk} (hn : S.H.get S.nx = none) {id : Nat} {b : Blk} (h : S.H.get id = some b) : (newBlk S nb).H.get id = some b := by
  simp only [newBlk, AL.get_set]
  rw [if_neg (fun q => by subst q; rw [hn] at h; cases h)]
  exact h

theorem lenAV_new {S : St} {nb : Blk} (hn : S.H.get S.nx = none) {x : AV} {n : Nat} (h : lenAV x S = some n) : lenAV x (newBlk S nb) = some n := by
  unfold lenAV at h
  split at h <;> first
    | exact h
    | (cases h; done)
    | (split at h
       · rename_i hg; simp only [lenAV, look_new hn hg]; exact h
       · cases h)

theorem mapOf_new {S : St} {nb : Blk} (hn : S.H.get S.nx = none) {x : AV} {M : MapD} (h : mapOf S x = some M) : mapOf (newBlk S nb) x = some M := by
  unfold mapOf at h ⊢
  split at h
  · exact h
  · split at h
    · rename_i hg; simp only [look_new hn hg]; exact h
    · cases h
  · cases h

/-- What is looked at stays, where a new variable comes in. -/
theorem read_new {C : Cfg} {ρ : Operand → Option AV} {op : Op} (hc : cls C op ≤ 1) {S : St} {nb : Blk} (hn : S.H.get S.nx = none) {v : AV} (h : oper C ρ S op = some (.val v S)) : oper C ρ (newBlk S nb) op = some (.val v (newBlk S nb)) := by
  by_cases h0 : cls C op = 0
  · obtain ⟨v', h1, h2⟩ := cls0 h0 S (newBlk S nb) _ h
    simp only [Nxt.val.injEq, and_true] at h1
    subst h1; exact h2
  · cases op <;> try (first | exact absurd rfl h0 | exact absurd (show (2 : Nat) ≤ 1 from hc) (by omega) | exact (cls_bs h0 hc).elim)
    case load t a =>
      simp only [oper] at h ⊢
      split at h
      · rename_i u hu
        simp only [Option.map_eq_some_iff, Nxt.val.injEq, and_true] at h ⊢
        obtain ⟨r, hr, rfl⟩ := h
        refine ⟨r, ?_, rfl⟩
        unfold opLoad at hr ⊢
        split at hr
        · rename_i id gen off
          split at hr
          · rename_i cs' hl
            have hk : ∃ g, S.H.get id = some (.cells g cs') := by
              unfold St.look at hl
              split at hl
              · rename_i g' cs2 hg
                cases hb : Nat.beq g' gen with
                | true => rw [hb] at hl; simp at hl; subst hl; exact ⟨_, hg⟩
                | false => rw [hb] at hl; simp at hl
              · cases hl
            obtain ⟨g, hk⟩ := hk
            have : (newBlk S nb).look id gen = some cs' := by
              unfold St.look at hl ⊢
              rw [look_new hn hk]
              rw [hk] at hl
              exact hl
            rw [this]; exact hr
          · cases hr
        · exact hr
        · cases hr
      · cases h
    case lookup t m k ok =>
      simp only [oper] at h ⊢
      split at h
      · simp only [Option.map_eq_some_iff, Nxt.val.injEq, and_true] at h ⊢
        obtain ⟨r, hr, rfl⟩ := h
        refine ⟨r, ?_, rfl⟩
        unfold opLookup at hr
        split at hr
        · rename_i kt et M hkt hM
          have : mapOf (newBlk S nb) _ = some M := mapOf_new hn hM
          unfold opLookup
          simp only [hkt, this]
          exact hr
        · cases hr
      · cases h
    case call c =>
      obtain ⟨callee, args, ats⟩ := c
      cases callee <;> try (exact absurd (show (2 : Nat) ≤ 1 from hc) (by omega))
      rename_i b
      cases b <;> try (first | exact absurd rfl h0 | exact absurd (show (2 : Nat) ≤ 1 from hc) (by omega))
      simp only [oper] at h ⊢
      split at h
      · rename_i as has
        unfold builtinAV at h ⊢
        split at h <;> try (first | contradiction | (cases h; done))
        split at h
        · rename_i t ht
          split at h
          · rename_i hlt
            simp only [Option.map_eq_some_iff, Nxt.val.injEq, and_true] at h
            obtain ⟨n, hn', rfl⟩ := h
            simp only [lenAV_new hn hn', Option.map_some, hlt, if_true]
          · cases h
        · cases h
      · cases h

theorem step_read_new {C : Cfg} {h : Hand} {nt : Nat} {ops : Array Oper} {o : Oper} {e e' : Env} {S : St} {nb : Blk} (hc : cls C o.op ≤ 1) (hn : S.H.get S.nx = none) (hs : stepE C h nt ops o e S = some (.go e' S)) :
    stepE C h nt ops o e (newBlk S nb) = some (.go e' (newBlk S nb)) := by
  unfold stepE at hs ⊢
  split at hs
  · split at hs
    · rename_i v S1 ho
      obtain ⟨v', h1⟩ := cls1 hc S ho
      simp only [Nxt.val.injEq] at h1
      obtain ⟨rfl, rfl⟩ := h1
      rw [read_new hc hn ho]
      split at hs
      · rename_i e1 hput
        simp only [Option.some.injEq, Stp.go.injEq, and_true] at hs
        subst hs
        simp [hput]
      · cases hs
    · rename_i S1 ho; obtain ⟨v', h1⟩ := cls1 hc S ho; cases h1
    · rename_i f args ho; obtain ⟨v', h1⟩ := cls1 hc S ho; cases h1
    · cases hs
    · cases hs
  · (repeat' split at hs) <;> first | (simp only [Option.some.injEq, Stp.go.injEq, and_true] at hs; subst hs; simp_all) | cases hs
  · cases hs

theorem sameEs_eq : ∀ (l l' : List (D × AV × Nat)), sameEs l l' = true → l = l'
  | [], l', h => by cases l' <;> simp_all [sameEs]
  | (k, v, n) :: l, l', h => by
    match l', h with
    | (k', v', n') :: l', h =>
      simp only [sameEs, Bool.and_eq_true] at h
      rw [Nat.eq_of_beq_eq_true h.1.1.1, D.same_eq _ _ h.1.1.2, AV.same_eq _ _ h.1.2, sameEs_eq _ _ h.2]

theorem sameAt_eq {S S' : St} {id : Nat} (h : sameAt S S' id = true) : S'.H.get id = S.H.get id := by
  unfold sameAt at h
  split at h
  · rename_i g cs g' cs' h1 h2
    simp only [Bool.and_eq_true] at h
    rw [h1, h2, Nat.eq_of_beq_eq_true h.1, AV.sames_eq _ _ h.2]
  · rename_i m m' h1 h2
    simp only [Bool.and_eq_true] at h
    rw [h1, h2]
    obtain ⟨es, clk⟩ := m
    obtain ⟨es', clk'⟩ := m'
    simp only at h
    rw [Nat.eq_of_beq_eq_true h.1, sameEs_eq _ _ h.2]
  · rename_i h1 h2; rw [h1, h2]
  · cases h

theorem idsOf_congr {ρ ρ' : Operand → Option AV} (op : Op) (h : ∀ x ∈ op.operands, ρ x = ρ' x) : idsOf ρ op = idsOf ρ' op := by
  cases op <;> simp only [Op.operands] at h <;> try rfl
  case load t a => simp only [idsOf]; rw [h a (by simp)]
  case lookup t m k ok => simp only [idsOf]; rw [h m (by simp)]
  case call c =>
    obtain ⟨callee, args, ats⟩ := c
    cases callee <;> try rfl
    rename_i b
    cases b <;> try rfl
    have ha : mapO ρ args.toList = mapO ρ' args.toList := mapO_congr fun p hp => h p (by simp only [Call.operands]; exact Array.mem_append.2 (.inr (by simpa using hp)))
    simp only [idsOf]
    rw [ha]

/-- What is looked at stays, where what it looks at stays. -/
theorem read_keep {C : Cfg} {ρ : Operand → Option AV} {op : Op} (hc : cls C op ≤ 1) {S S2 : St} (hI : ∀ id ∈ (idsOf ρ op).getD [], S2.H.get id = S.H.get id) {v : AV} (h : oper C ρ S op = some (.val v S)) : oper C ρ S2 op = some (.val v S2) := by
  by_cases h0 : cls C op = 0
  · obtain ⟨v', h1, h2⟩ := cls0 h0 S S2 _ h
    simp only [Nxt.val.injEq, and_true] at h1
    subst h1; exact h2
  · cases op <;> try (first | exact absurd rfl h0 | exact absurd (show (2 : Nat) ≤ 1 from hc) (by omega) | exact (cls_bs h0 hc).elim)
    case load t a =>
      simp only [oper] at h ⊢
      split at h
      · rename_i u hu
        simp only [Option.map_eq_some_iff, Nxt.val.injEq, and_true] at h ⊢
        obtain ⟨r, hr, rfl⟩ := h
        refine ⟨r, ?_, rfl⟩
        unfold opLoad at hr ⊢
        split at hr
        · rename_i id gen off
          have : S2.look id gen = S.look id gen := by
            unfold St.look
            rw [hI id (by simp [idsOf, hu])]
          simp only [this]; exact hr
        · exact hr
        · cases hr
      · cases h
    case lookup t m k ok =>
      simp only [oper] at h ⊢
      split at h
      · rename_i mv kd hmv hkd
        simp only [Option.map_eq_some_iff, Nxt.val.injEq, and_true] at h ⊢
        obtain ⟨r, hr, rfl⟩ := h
        refine ⟨r, ?_, rfl⟩
        have : mapOf S2 mv = mapOf S mv := by
          cases mv <;> try rfl
          · rename_i y; cases y <;> rfl
          · rename_i id
            simp only [mapOf]
            rw [hI id (by simp [idsOf, hmv])]
        unfold opLookup at hr ⊢
        rw [this]; exact hr
      · cases h
    case call c =>
      obtain ⟨callee, args, ats⟩ := c
      cases callee <;> try (exact absurd (show (2 : Nat) ≤ 1 from hc) (by omega))
      rename_i b
      cases b <;> try (first | exact absurd rfl h0 | exact absurd (show (2 : Nat) ≤ 1 from hc) (by omega))
      simp only [oper] at h ⊢
      split at h
      · rename_i as has
        unfold builtinAV at h ⊢
        split at h <;> try (first | contradiction | (cases h; done))
        rename_i x _
        split at h
        · rename_i t ht
          split at h
          · rename_i hlt
            simp only [Option.map_eq_some_iff, Nxt.val.injEq, and_true] at h
            obtain ⟨n, hn', rfl⟩ := h
            have : lenAV x S2 = some n := by
              rw [← hn']
              cases x <;> try rfl
              · rename_i y; cases y <;> rfl
              · rename_i id
                simp only [lenAV]
                rw [hI id (by simp [idsOf, has])]
            simp only [this, Option.map_some, hlt, if_true]
          · cases h
        · cases h
      · cases h

theorem step_keep {C : Cfg} {h : Hand} {nt : Nat} {ops : Array Oper} {o : Oper} {e e' : Env} {S S2 : St} (hc : cls C o.op ≤ 1) (hI : ∀ id ∈ (idsOf (evalO e) o.op).getD [], S2.H.get id = S.H.get id) (hs : stepE C h nt ops o e S = some (.go e' S)) :
    stepE C h nt ops o e S2 = some (.go e' S2) := by
  unfold stepE at hs ⊢
  split at hs
  · split at hs
    · rename_i v S1 ho
      obtain ⟨v', h1⟩ := cls1 hc S ho
      simp only [Nxt.val.injEq] at h1
      obtain ⟨rfl, rfl⟩ := h1
      rw [read_keep hc hI ho]
      split at hs
      · rename_i e1 hput
        simp only [Option.some.injEq, Stp.go.injEq, and_true] at hs
        subst hs
        simp [hput]
      · cases hs
    · rename_i S1 ho; obtain ⟨v', h1⟩ := cls1 hc S ho; cases h1
    · rename_i f args ho; obtain ⟨v', h1⟩ := cls1 hc S ho; cases h1
    · cases hs
    · cases hs
  · (repeat' split at hs) <;> first | (simp only [Option.some.injEq, Stp.go.injEq, and_true] at hs; subst hs; simp_all) | cases hs
  · cases hs

/-- What is known of an operation that came with such a number. -/
structure KOk (C : Cfg) (h : Hand) (nt : Nat) (ops : Array Oper) (I : List Nat) (o : Oper) (e : Env) (k : Nat) : Prop where
  zero : k = 0 → Z0 C h nt ops o e
  one : k = 1 → cls C o.op ≤ 1 ∧ ∀ id ∈ (idsOf (evalO e) o.op).getD [], id ∈ I
  three : k = 3 → isNew C o.op = true

theorem KOk.agree {C : Cfg} {h : Hand} {nt : Nat} {ops : Array Oper} {I : List Nat} {o : Oper} {e f : Env} {k : Nat} (z : KOk C h nt ops I o e k) (ha : ∀ t ∈ o.looksAt ops, AL.get f t = AL.get e t) : KOk C h nt ops I o f k :=
  ⟨fun q => (z.zero q).agree ha, fun q => ⟨(z.one q).1, by rw [idsOf_congr o.op (fun x hx => (evalO_agree ha x hx).symm)]; exact (z.one q).2⟩, z.three⟩

/-- What a write of kind 4 leaves alone. -/
def Keep (I : List Nat) (k : Nat) (S S' : St) : Prop := k = 4 → ∀ id ∈ I, S'.H.get id = S.H.get id

theorem commute {C : Cfg} {h : Hand} {nt : Nat} {ops : Array Oper} {I : List Nat} {x y : Oper} {e e1 e2 : Env} {S S1 S2 : St} {kx ky : Nat} (hap : x.apart ops y = true) (hcl : okK kx ky = true) (zx : KOk C h nt ops I x e kx) (zy : KOk C h nt ops I y e1 ky)
    (px : Keep I kx S S1) (py : Keep I ky S1 S2) (hx : stepE C h nt ops x e S = some (.go e1 S1)) (hy : stepE C h nt ops y e1 S1 = some (.go e2 S2)) :
    ∃ f1 T1 f2, stepE C h nt ops y e S = some (.go f1 T1) ∧ stepE C h nt ops x f1 T1 = some (.go f2 S2) ∧ Eqv f2 e2 ∧ KOk C h nt ops I y e ky ∧ KOk C h nt ops I x f1 kx ∧ Keep I ky S T1 ∧ Keep I kx T1 S2 := by
  obtain ⟨a1, a2, a3⟩ := Oper.apart_spec hap
  obtain ⟨vx, _, _, ux, _⟩ := step_congr hx (e2 := e) (fun _ _ => rfl)
  have hyl : ∀ t ∈ y.looksAt ops, AL.get e t = AL.get e1 t := fun t ht => by
    rw [ux t, if_neg (fun q => a1 t q ht)]
  have zy' := zy.agree hyl
  have xl : ∀ {vy : Option AV} {f1 : Env}, Upd e y.dst vy f1 → ∀ t ∈ x.looksAt ops, AL.get f1 t = AL.get e t := fun u t ht => by
    rw [u t, if_neg (fun q => a3 t q ht)]
  have fin : ∀ {vy : Option AV} {f1 : Env} {T : St}, Upd e1 y.dst vy e2 → Upd e y.dst vy f1 → (∃ f2, stepE C h nt ops x f1 T = some (.go f2 S2) ∧ Upd f1 x.dst vx f2) → ∃ f2, stepE C h nt ops x f1 T = some (.go f2 S2) ∧ Eqv f2 e2 := by
    intro vy f1 T u1 u2 ⟨f2, q1, q2⟩
    refine ⟨f2, q1, fun t => ?_⟩
    rw [q2 t, u2 t, u1 t, ux t]
    by_cases hd : x.dst = some t
    · have : y.dst ≠ some t := a2 t hd
      simp [hd, this]
    · simp [hd]
  have updx : ∀ {v : Option AV} {f1 f2 : Env}, Upd e x.dst v e1 → Upd f1 x.dst v f2 → Upd f1 x.dst vx f2 := fun u u' => by
    intro t
    rw [u' t]
    by_cases hd : x.dst = some t
    · have q1 := u t; have q2 := ux t; rw [if_pos hd] at q1 q2; simp [hd, ← q1, ← q2]
    · simp [hd]
  simp only [okK, Bool.or_eq_true, Bool.and_eq_true] at hcl
  rcases hcl with ((q | q) | ⟨q, q2⟩) | ⟨q, q2⟩
  · -- x does the same everywhere
    have hq0 := Nat.eq_of_beq_eq_true q
    obtain ⟨v0, z0⟩ := zx.zero hq0
    have hS : S1 = S ∧ Upd e x.dst v0 e1 := by
      obtain ⟨e1', g1, g2⟩ := z0 e (fun _ _ => rfl) S
      rw [hx] at g1
      simp only [Option.some.injEq, Stp.go.injEq] at g1
      exact ⟨g1.2, by rw [g1.1]; exact g2⟩
    obtain ⟨rfl, hu⟩ := hS
    obtain ⟨vy, f1, k1, k2, k3⟩ := step_congr hy hyl
    obtain ⟨f2, g1, g2⟩ := z0 f1 (xl k3) S2
    obtain ⟨f2', m1, m2⟩ := fin k2 k3 ⟨f2, g1, updx hu g2⟩
    exact ⟨f1, S2, f2', k1, m1, m2, zy', zx.agree (xl k3), py, fun q => by omega⟩
  · have hq0 := Nat.eq_of_beq_eq_true q
    obtain ⟨v0, z0⟩ := zy.zero hq0
    have hS : S2 = S1 ∧ Upd e1 y.dst v0 e2 := by
      obtain ⟨e1', g1, g2⟩ := z0 e1 (fun _ _ => rfl) S1
      rw [hy] at g1
      simp only [Option.some.injEq, Stp.go.injEq] at g1
      exact ⟨g1.2, by rw [g1.1]; exact g2⟩
    obtain ⟨rfl, hu⟩ := hS
    obtain ⟨f1, k1, k3⟩ := z0 e hyl S
    obtain ⟨v3, f2, g1, g2, g3⟩ := step_congr hx (xl k3)
    obtain ⟨f2', m1, m2⟩ := fin hu k3 ⟨f2, g1, updx g2 g3⟩
    exact ⟨f1, S, f2', k1, m1, m2, zy', zx.agree (xl k3), fun q => by omega, px⟩
  · have hq1 := Nat.eq_of_beq_eq_true q
    obtain ⟨hx1, hx2'⟩ := zx.one hq1
    have e1S := step1 hx1 hx
    subst e1S
    obtain ⟨vy, f1, k1, k2, k3⟩ := step_congr hy hyl
    have hx2 : ∃ f2, stepE C h nt ops x f1 S2 = some (.go f2 S2) ∧ Upd f1 x.dst vx f2 := by
      have hat : stepE C h nt ops x e S2 = some (.go e1 S2) := by
        try simp only [Bool.or_eq_true] at q2
        rcases q2 with (q2 | q2) | q2
        · have := step1 (zy.one (Nat.eq_of_beq_eq_true q2)).1 hy
          subst this; exact hx
        · rcases step_new (zy.three (Nat.eq_of_beq_eq_true q2)) hy with r | ⟨r1, cs, r2⟩
          · subst r; exact hx
          · subst r2; exact step_read_new hx1 r1 hx
        · exact step_keep hx1 (fun id hid => py (Nat.eq_of_beq_eq_true q2) id (hx2' id hid)) hx
      obtain ⟨v3, f2, g1, g2, g3⟩ := step_congr hat (xl k3)
      exact ⟨f2, g1, updx g2 g3⟩
    obtain ⟨f2', m1, m2⟩ := fin k2 k3 hx2
    exact ⟨f1, S2, f2', k1, m1, m2, zy', zx.agree (xl k3), py, fun q => by omega⟩
  · -- a write, then a look
    have hq4 := Nat.eq_of_beq_eq_true q
    have hq1 := Nat.eq_of_beq_eq_true q2
    obtain ⟨hy1, hy2⟩ := zy'.one hq1
    have e2S := step1 hy1 hy
    subst e2S
    obtain ⟨vy, f0, k1, k2, k3⟩ := step_congr hy hyl
    have hyS : stepE C h nt ops y e S = some (.go f0 S) := step_keep (S := S2) (S2 := S) hy1 (fun id hid => (px hq4 id (hy2 id hid)).symm) k1
    obtain ⟨v3, f2, g1, g2, g3⟩ := step_congr hx (xl k3)
    obtain ⟨f2', m1, m2⟩ := fin k2 k3 ⟨f2, g1, updx g2 g3⟩
    exact ⟨f0, S, f2', hyS, m1, m2, zy', zx.agree (xl k3), fun q => by omega, px⟩

end Go.Ev

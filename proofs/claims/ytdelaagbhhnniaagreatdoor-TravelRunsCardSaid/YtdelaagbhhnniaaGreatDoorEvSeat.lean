import Derived.Test.YtdelaagbhhnniaaGreatDoorEvLib
namespace Go.Ev
set_option linter.unusedVariables false

/-- May a function be entered? -/
def okFn (P : Program) (f : Nat) : Bool := match P.funcs[f]? with
  | some fn => (match fn.body with | some c => codeOk c | none => true) && !(fn.name == "runtime.NumGoroutine")
  | none => true

def hasN : List Nat → Nat → Bool
  | [], _ => false
  | x :: l, n => bif Nat.beq x n then true else hasN l n

theorem hasN_mem : ∀ {l : List Nat} {n : Nat}, hasN l n = true → n ∈ l
  | [], n, h => by cases h
  | x :: l, n, h => by
    unfold hasN at h
    cases hb : Nat.beq x n
    · rw [hb] at h; exact List.mem_cons_of_mem _ (hasN_mem h)
    · have := Nat.eq_of_beq_eq_true hb; subst this; exact List.mem_cons_self

/-- No static fact. -/
def noG : World → (Nat → Nat → Prop) → Prop := fun _ _ => True
theorem noG_ok : StatOk noG := fun _ _ _ _ _ _ => trivial

/-- The evaluation of a program: the functions that may be entered, the slices that are rows, the functions that are answered without their bodies, the type of strings.Builder. -/
def theCfg (P : Program) (good rows : List Nat) (ps : AL Prim) (hasB : Bool) (bt : Nat) : Cfg :=
  { P := P, good := hasN good, rowT := hasN rows, prim := fun f args S => match AL.get ps f with | some p => p args S | none => none,
    objT := fun t => bif hasB && Nat.beq t bt then some (1, .str []) else none, hasPrim := AL.has ps }

theorem theCfg_ok {G : World → (Nat → Nat → Prop) → Prop} (hG : StatOk G) {P : Program} {good rows : List Nat} {ps : AL Prim} {hasB : Bool} {bt e : Nat} (hg : good.all (okFn P) = true) (hm : P.follows .mixedOrders = true)
    (hz : hasB = true → ∀ w, (zeroValue bt).run P w = .ok (.agg #[.pointer none, .slice none 0 0]) w) (hp : primsOk (theR bt e G) P ps) : CfgOk (theR bt e G) (theCfg P good rows ps hasB bt) where
  obj := { theR_ok hG with
    new := fun t k x h => by
      simp only [theCfg] at h
      cases hb : hasB && Nat.beq t bt with
      | false => rw [hb] at h; cases h
      | true =>
        rw [hb] at h
        simp only [cond_true, Option.some.injEq, Prod.mk.injEq] at h
        obtain ⟨rfl, rfl⟩ := h
        simp only [Bool.and_eq_true] at hb
        have ht := Nat.eq_of_beq_eq_true hb.2
        subst ht
        exact ⟨_, hz hb.1, fun w => .inl ⟨rfl, [], .pointer none, .slice none 0 0, rfl, ⟨.inl rfl, heap_alloc_new w _, World.ownsRow_nil _ 0 e 1, by simp [Value.ownBlock]⟩, fun c => by simp [Value.ownBlock]⟩, rfl⟩ }
  mixed := hm
  code := fun f fn c h hf hc => by
    have := List.all_eq_true.1 hg f (hasN_mem h)
    unfold okFn at this
    have hf' : P.funcs[f]? = some fn := hf
    simp only [hf', hc, Bool.and_eq_true, Bool.not_eq_true'] at this
    exact ⟨this.1, fun q => by rw [q] at this; simp at this⟩
  primPure := fun f args S v S' _ h h1 h2 S2 => by
    simp only [theCfg] at h ⊢
    split at h
    · rename_i p hq; exact (primsOk_get hp hq).pure args S v S' h h1 h2 S2
    · cases h
  prim := fun f args S v S' _ h => by
    simp only [theCfg] at h
    split at h
    · rename_i p hq; exact (primsOk_get hp hq).calls args S v S' h
    · cases h

end Go.Ev

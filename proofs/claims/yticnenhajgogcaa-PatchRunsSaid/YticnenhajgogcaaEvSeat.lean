import Derived.Test.YticnenhajgogcaaEvIns
namespace Go.Ev
set_option linter.unusedVariables false

/-- May a function be entered? -/
def okFn (P : Program) (f : Nat) : Bool := match P.funcs[f]? with
  | some fn => (match fn.body with | some c => codeOk c | none => true) && !(fn.name == "runtime.NumGoroutine")
  | none => true

def hasN : List Nat → Nat → Bool
  | [], _ => false
  | x :: l, n => bif Nat.beq x n then true else hasN l n

theorem hasN_mem : ∀ {l : List Nat} {n : Nat}, hasN l n = true → n ∈ l
  | [], n, h => by cases h
  | x :: l, n, h => by
    unfold hasN at h
    cases hb : Nat.beq x n
    · rw [hb] at h; exact List.mem_cons_of_mem _ (hasN_mem h)
    · have := Nat.eq_of_beq_eq_true hb; subst this; exact List.mem_cons_self

def noObj : ObjR := fun _ _ _ _ _ => False
theorem noObj_ok : ObjOk noObj := ⟨fun _ _ _ _ _ _ h => h.elim, fun _ _ _ _ _ h => h.elim⟩

abbrev Prim := List AV → St → Option (AV × St)

/-- What is asked of a function that is answered without its body. -/
structure PrimOk (R : ObjR) (P : Program) (f : Nat) (p : Prim) : Prop where
  pure : ∀ args S v S', p args S = some (v, S') → (toDs args).isSome = true → (toDT v).isSome = true → ∀ S2, p args S2 = some (v, S2)
  calls : ∀ args S v S', p args S = some (v, S') → (∃ fn, P.funcs[f]? = some fn ∧ fn.body.isSome = true ∧ fn.name ≠ "runtime.NumGoroutine") ∧
    ∀ cx w (us : List Value), SRel R cx S w → us.length = args.length → (∀ (i : Nat) (x : AV) (u : Value), args[i]? = some x → us[i]? = some u → ARel cx S w x u) →
    Calls P f us.toArray w (fun e w' => ∃ cx', SRel R cx' S' w' ∧ Ext cx S w cx' S' w' ∧ ∃ u, e = .returned u ∧ ARel cx' S' w' v u)

def primsOk (R : ObjR) (P : Program) : AL Prim → Prop
  | [] => True
  | (f, p) :: l => PrimOk R P f p ∧ primsOk R P l

theorem primsOk_get {R : ObjR} {P : Program} : ∀ {l : AL Prim} {f : Nat} {p : Prim}, primsOk R P l → AL.get l f = some p → PrimOk R P f p
  | [], f, p, _, h => by cases h
  | (k, q) :: l, f, p, hl, h => by
    rw [AL.get_cons] at h
    split at h
    · rename_i he
      cases h; subst he; exact hl.1
    · exact primsOk_get hl.2 h

/-- The evaluation of a program. -/
def theCfg (P : Program) (good rows : List Nat) (ps : AL Prim) : Cfg :=
  { P := P, good := hasN good, rowT := hasN rows, prim := fun f args S => match AL.get ps f with | some p => p args S | none => none, hasPrim := AL.has ps }

theorem theCfg_ok {R : ObjR} (hR : ObjOk R) {P : Program} {good rows : List Nat} {ps : AL Prim} (hg : good.all (okFn P) = true) (hm : P.follows .mixedOrders = true) (hp : primsOk R P ps) : CfgOk R (theCfg P good rows ps) where
  obj := hR
  mixed := hm
  code := fun f fn c h hf hc => by
    have := List.all_eq_true.1 hg f (hasN_mem h)
    unfold okFn at this
    have hf' : P.funcs[f]? = some fn := hf
    simp only [hf', hc, Bool.and_eq_true, Bool.not_eq_true'] at this
    exact ⟨this.1, fun q => by rw [q] at this; simp at this⟩
  primPure := fun f args S v S' _ h h1 h2 S2 => by
    simp only [theCfg] at h ⊢
    split at h
    · rename_i p hq; exact (primsOk_get hp hq).pure args S v S' h h1 h2 S2
    · cases h
  prim := fun f args S v S' _ h => by
    simp only [theCfg] at h
    split at h
    · rename_i p hq; exact (primsOk_get hp hq).calls args S v S' h
    · cases h

/-- slices.Insert of numbers. -/
theorem insPrim_ok {R : ObjR} (hR : ObjOk R) {P : Program} {ρ : Shelf.Ren} (L : Proofs.Lays2.n21 P ρ) : PrimOk R P (ρ.f 21) insPrim where
  pure := fun args S v S' h h1 => by
    exfalso
    unfold insPrim at h
    split at h
    · simp [toDs, toD] at h1
    · simp [toDs, toD] at h1
    · cases h
  calls := fun args S v S' h => ⟨⟨_, L.f21, rfl, by show ¬ ("slices.Insert[[]int,int]" = "runtime.NumGoroutine"); decide⟩, fun cx w us hS hl hr => insPrim_sound hR L h hS hl hr⟩

end Go.Ev

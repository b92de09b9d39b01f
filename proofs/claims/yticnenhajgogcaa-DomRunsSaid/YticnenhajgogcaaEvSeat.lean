import Derived.Test.YticnenhajgogcaaEvFn
namespace Go.Ev
set_option linter.unusedVariables false

/-- May a function be entered? -/
def okFn (P : Program) (f : Nat) : Bool := match P.funcs[f]? with
  | some fn => (match fn.body with | some c => codeOk c | none => true) && !(fn.name == "runtime.NumGoroutine")
  | none => true

def hasN : List Nat → Nat → Bool
  | [], _ => false
  | x :: l, n => bif Nat.beq x n then true else hasN l n

theorem hasN_mem : ∀ {l : List Nat} {n : Nat}, hasN l n = true → n ∈ l
  | [], n, h => by cases h
  | x :: l, n, h => by
    unfold hasN at h
    cases hb : Nat.beq x n
    · rw [hb] at h; exact List.mem_cons_of_mem _ (hasN_mem h)
    · have := Nat.eq_of_beq_eq_true hb; subst this; exact List.mem_cons_self

def noObj : ObjR := fun _ _ _ _ _ => False
theorem noObj_ok : ObjOk noObj := ⟨fun _ _ _ _ _ _ h => h.elim, fun _ _ _ _ _ h => h.elim⟩

/-- The evaluation of a program without objects. -/
def plainCfg (P : Program) (good rows : List Nat) : Cfg := { P := P, good := hasN good, rowT := hasN rows, prim := fun _ _ _ => none, hasPrim := fun _ => false }

theorem plainCfg_ok {P : Program} {good rows : List Nat} (hg : good.all (okFn P) = true) (hm : P.follows .mixedOrders = true) : CfgOk noObj (plainCfg P good rows) where
  obj := noObj_ok
  mixed := hm
  code := fun f fn c h hf hc => by
    have := List.all_eq_true.1 hg f (hasN_mem h)
    unfold okFn at this
    have hf' : P.funcs[f]? = some fn := hf
    simp only [hf', hc, Bool.and_eq_true, Bool.not_eq_true'] at this
    exact ⟨this.1, fun q => by rw [q] at this; simp at this⟩
  primPure := fun f args S v S' h => by cases h
  prim := fun f args S v S' h => by cases h

end Go.Ev

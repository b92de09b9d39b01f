/- OutletRuns: the closed sentence answers true. It is shown by an evaluation of the program's own functions (the texts that bear Ev) that is proved right against the given model; the evaluation itself is carried out by the kernel; some functions of Go's library are answered by the kit's contracts. No conditions. -/
import Derived.Test.YtohhnebppppopaaEvSeat
import Derived.Test.YtohhnebppppopaaRows
import Derived.WalkKit
import Derived.ProofKit
import Derived.OpenShut
namespace Go.Proofs.Ytohhnebppppopaa
namespace Runs
set_option linter.unusedVariables false
open Go.ChangeShapes Go.WideShapes Go.ChangeAt Go.RowKit

theorem own : ownKnob Try.prog.godebug = none := by kernel_rfl

def ren_ins : Go.Shelf.Ren := { f := fun x => bif Nat.beq x 21 then 42 else bif Nat.beq x 27 then 52 else bif Nat.beq x 28 then 53 else bif Nat.beq x 35 then 56 else bif Nat.beq x 39 then 58 else x, t := fun x => bif Nat.beq x 22 then 37 else bif Nat.beq x 3 then 3 else bif Nat.beq x 4 then 4 else bif Nat.beq x 0 then 0 else x, g := fun x => x }
set_option maxRecDepth 100000 in
theorem lay_ins : Go.Proofs.Lays2.n21 Try.prog ren_ins where
  mixed := by kernel_rfl
  f21 := by kernel_rfl
  f27 := by kernel_rfl
  f28 := by kernel_rfl
  f35 := by kernel_rfl
  f39 := by kernel_rfl
  t0 := by kernel_rfl
  a0 := fun w => by kernel_rfl
  z0 := fun w => by kernel_rfl
  v0 := fun w => by kernel_rfl
  t3 := by kernel_rfl
  a3 := fun w => by kernel_rfl
  z3 := fun w => by kernel_rfl
  v3 := fun w => by kernel_rfl
  t4 := by kernel_rfl
  a4 := fun w => by kernel_rfl
  z4 := fun w => by kernel_rfl
  v4 := fun w => by kernel_rfl
  t22 := by kernel_rfl
  a22 := fun w => by kernel_rfl
  z22 := fun w => by kernel_rfl
  v22 := fun w => by kernel_rfl
  i3 := by kernel_rfl


def goodL : List Nat := List.range 75
def rowsL : List Nat := [37, 50]
def prims : Ev.AL Ev.Prim := [(42, Ev.insPrim)]
noncomputable def cfg : Ev.Cfg := Ev.theCfg Try.prog goodL rowsL prims false 0
def G : World → (Nat → Nat → Prop) → Prop := Ev.noG
theorem G_ok : Ev.StatOk G := Ev.noG_ok
theorem R_ok : Ev.ObjOk (Ev.theR 0 0 G) := Ev.theR_ok G_ok
theorem prims_ok : Ev.primsOk (Ev.theR 0 0 G) Try.prog prims := ⟨Ev.insPrim_ok R_ok lay_ins, trivial⟩
theorem cfg_ok : Ev.CfgOk (Ev.theR 0 0 G) cfg := Ev.theCfg_ok G_ok (by kernel_rfl) (by kernel_rfl) (fun q => by cases q) prims_ok
theorem ev : Ev.evF cfg 60 3 (([] : List Ev.D).map .d) Ev.pureSt = some (none, .d (.bool true), Ev.pureSt) := by kernel_rfl

theorem walk (w : World) (hG : G w (fun _ _ => False)) : Calls Try.prog 3 #[] w fun e w' => e = .returned (.bool true) ∧ Below w.heap.size w w' :=
  (Ev.calls_of_ev cfg_ok ev w hG [] rfl (by simp)).mono fun e w' ⟨u, he, hu, hb⟩ => by
    have := hu.val rfl
    cases this
    exact ⟨he, hb⟩

set_option maxRecDepth 100000 in
theorem lifted (os : Os) (started : os.Started) (H : Type) (enc : TypeId × Value → H) :
    ReturnsInHanded {} Try.checked os 3 .any (Rows.outletRunsSpec.pre6 enc Try.prog Try.f3 Rows.outletRunsRow.domain false) (Rows.outletRunsSpec.post enc Try.prog Try.f3 false true false false) := by
  refine returnsInHanded_of_change (C := Try.checked) own started (by kernel_rfl) Try.func3
    (ChangeSpec.witness6 (enc := enc) (C := Try.checked) false ⟨#[], #[], []⟩ 8 (by kernel_rfl) (by kernel_rfl) (by kernel_rfl) (by kernel_rfl)) ?_
  intro W base args ds gs before hval0 hW hcnd _
  have hW' := hW
  obtain ⟨p, q, hA0, hV, rfl, hfz, hnd⟩ := hW
  have hA : DataW.TrodAll enc Try.prog W 0 (fun _ => true) true Try.f3.params.toList args.toList ds p := hA0
  rw [Try.params3] at hA
  obtain ⟨rfl, rfl, rfl⟩ := trodAll_none hA
  obtain ⟨rfl, rfl⟩ := trodVars_none hV
  refine (walk W trivial).mono fun e W' ⟨he, hb⟩ => ?_
  subst he
  exact ⟨_, rfl, _, _, _, [], [], [], hW', trodAll_mk1 (shut_bool (by kernel_rfl) _), trodAll_mk0, rfl, hb.frame _, fun h => by cases h⟩

theorem said : Rows.OutletRunsSaid :=
  OpenClaim.holds_of_wide 3 Try.f3 rfl rfl rfl rfl rfl rfl rfl ⟨rfl, rfl, rfl, rfl, rfl⟩ rfl rfl rfl rfl rfl (by kernel_rfl) Try.func3 (by kernel_rfl)
    (of_decide_eq_true (by kernel_rfl)) (by unfold Func.isWrapper; first | (rw [if_pos (by decide +kernel)]; kernel_rfl) | (rw [if_neg (by decide +kernel)]; exact ⟨rfl, rfl⟩))
    (fun os started H enc _ => lifted os started H enc)
end Runs
end Go.Proofs.Ytohhnebppppopaa

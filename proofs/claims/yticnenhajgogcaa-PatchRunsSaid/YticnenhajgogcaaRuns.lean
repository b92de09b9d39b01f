/- PatchRuns: the closed sentence answers true. It is shown by an evaluation of the program's own functions (the texts that bear Ev) that is proved right against the given model; the evaluation itself is carried out by the kernel. No conditions. -/
import Derived.Test.YticnenhajgogcaaEvSeat
import Derived.Test.YticnenhajgogcaaRows
import Derived.WalkKit
import Derived.ProofKit
import Derived.OpenShut
namespace Go.Proofs.Yticnenhajgogcaa
open Go.ChangeShapes Go.WideShapes Go.ChangeAt Go.RowKit

theorem Try.own : ownKnob Try.prog.godebug = none := by kernel_rfl

namespace Runs
def ren : Go.Shelf.Ren := { f := fun n => bif Nat.beq n 21 then 54 else bif Nat.beq n 27 then 76 else bif Nat.beq n 28 then 77 else bif Nat.beq n 35 then 78 else bif Nat.beq n 39 then 79 else 0, t := fun n => bif Nat.beq n 22 then 41 else n, g := fun n => n }
set_option maxRecDepth 100000 in
theorem lay : Go.Proofs.Lays2.n21 Try.prog ren where
  mixed := by kernel_rfl
  f21 := by kernel_rfl
  f27 := by kernel_rfl
  f28 := by kernel_rfl
  f35 := by kernel_rfl
  f39 := by kernel_rfl
  t0 := by kernel_rfl
  a0 := fun w => by kernel_rfl
  z0 := fun w => by kernel_rfl
  v0 := fun w => by kernel_rfl
  t3 := by kernel_rfl
  a3 := fun w => by kernel_rfl
  z3 := fun w => by kernel_rfl
  v3 := fun w => by kernel_rfl
  t4 := by kernel_rfl
  a4 := fun w => by kernel_rfl
  z4 := fun w => by kernel_rfl
  v4 := fun w => by kernel_rfl
  t22 := by kernel_rfl
  a22 := fun w => by kernel_rfl
  z22 := fun w => by kernel_rfl
  v22 := fun w => by kernel_rfl
  i3 := by kernel_rfl
def goodL : List Nat := List.range 96
def rowsL : List Nat := [81, 41]
noncomputable def cfg : Ev.Cfg := Ev.theCfg Try.prog goodL rowsL [(54, Ev.insPrim)]
theorem cfg_ok : Ev.CfgOk Ev.noObj cfg := Ev.theCfg_ok Ev.noObj_ok (by kernel_rfl) (by kernel_rfl) ⟨Ev.insPrim_ok Ev.noObj_ok lay, trivial⟩
theorem ev : Ev.evF cfg 60 7 (([] : List Ev.D).map .d) Ev.pureSt = some (none, .d (.bool true), Ev.pureSt) := by kernel_rfl

theorem walk (w : World) : Calls Try.prog 7 #[] w fun e w' => e = .returned (.bool true) ∧ Below w.heap.size w w' :=
  (Ev.calls_of_ev cfg_ok ev w [] rfl (by simp)).mono fun e w' ⟨u, he, hu, hb⟩ => by
    have := hu.val rfl
    cases this
    exact ⟨he, hb⟩

set_option maxRecDepth 100000 in
theorem lifted (os : Os) (started : os.Started) (H : Type) (enc : TypeId × Value → H) :
    ReturnsInHanded {} Try.checked os 7 .any (Rows.patchRunsSpec.pre6 enc Try.prog Try.f7 Rows.patchRunsRow.domain false) (Rows.patchRunsSpec.post enc Try.prog Try.f7 false true false false) := by
  refine returnsInHanded_of_change (C := Try.checked) Try.own started (by kernel_rfl) Try.func7
    (ChangeSpec.witness6 (enc := enc) (C := Try.checked) false ⟨#[], #[], []⟩ 8 (by kernel_rfl) (by kernel_rfl) (by kernel_rfl) (by kernel_rfl)) ?_
  intro W base args ds gs before hval0 hW hcnd _
  have hW' := hW
  obtain ⟨p, q, hA0, hV, rfl, hfz, hnd⟩ := hW
  have hA : DataW.TrodAll enc Try.prog W 0 (fun _ => true) true Try.f7.params.toList args.toList ds p := hA0
  rw [Try.params7] at hA
  obtain ⟨rfl, rfl, rfl⟩ := trodAll_none hA
  obtain ⟨rfl, rfl⟩ := trodVars_none hV
  refine (walk W).mono fun e W' ⟨he, hb⟩ => ?_
  subst he
  exact ⟨_, rfl, _, _, _, [], [], [], hW', trodAll_mk1 (shut_bool (by kernel_rfl) _), trodAll_mk0, rfl, hb.frame _, fun h => by cases h⟩

theorem patchRuns_holds : Rows.PatchRunsSaid :=
  OpenClaim.holds_of_wide 7 Try.f7 rfl rfl rfl rfl rfl rfl rfl ⟨rfl, rfl, rfl, rfl, rfl⟩ rfl rfl rfl rfl rfl (by kernel_rfl) Try.func7 (by kernel_rfl)
    (of_decide_eq_true (by kernel_rfl)) (by unfold Func.isWrapper; first | (rw [if_pos (by decide +kernel)]; kernel_rfl) | (rw [if_neg (by decide +kernel)]; exact ⟨rfl, rfl⟩))
    (fun os started H enc _ => lifted os started H enc)
end Runs
end Go.Proofs.Yticnenhajgogcaa

/- DomRuns: the closed sentence of chapter 12 answers true. It is shown by an evaluation of the program's own functions (the texts that bear Ev) that is proved right against the given model; the evaluation itself is carried out by the kernel. No conditions. -/
import Derived.Test.YticnenhajgogcaaEvSeat
import Derived.Test.YticnenhajgogcaaRows
import Derived.WalkKit
import Derived.ProofKit
import Derived.OpenShut
namespace Go.Proofs.Yticnenhajgogcaa
open Go.ChangeShapes Go.WideShapes Go.ChangeAt Go.RowKit

theorem Try.own : ownKnob Try.prog.godebug = none := by kernel_rfl

namespace Runs
def goodL : List Nat := List.range 96
def rowsL : List Nat := [81, 41]
noncomputable def cfg : Ev.Cfg := Ev.plainCfg Try.prog goodL rowsL
theorem cfg_ok : Ev.CfgOk Ev.noObj cfg := Ev.plainCfg_ok (by kernel_rfl) (by kernel_rfl)
theorem ev3 : Ev.evF cfg 60 3 (([] : List Ev.D).map .d) Ev.pureSt = some (none, .d (.bool true), Ev.pureSt) := by kernel_rfl

theorem walk3 (w : World) : Calls Try.prog 3 #[] w fun e w' => e = .returned (.bool true) ∧ Below w.heap.size w w' :=
  (Ev.calls_of_ev cfg_ok ev3 w [] rfl (by simp)).mono fun e w' ⟨u, he, hu, hb⟩ => by
    have := hu.val rfl
    cases this
    exact ⟨he, hb⟩

set_option maxRecDepth 100000 in
theorem lifted3 (os : Os) (started : os.Started) (H : Type) (enc : TypeId × Value → H) :
    ReturnsInHanded {} Try.checked os 3 .any (Rows.domRunsSpec.pre6 enc Try.prog Try.f3 Rows.domRunsRow.domain false) (Rows.domRunsSpec.post enc Try.prog Try.f3 false true false false) := by
  refine returnsInHanded_of_change (C := Try.checked) Try.own started (by kernel_rfl) Try.func3
    (ChangeSpec.witness6 (enc := enc) (C := Try.checked) false ⟨#[], #[], []⟩ 8 (by kernel_rfl) (by kernel_rfl) (by kernel_rfl) (by kernel_rfl)) ?_
  intro W base args ds gs before hval0 hW hcnd _
  have hW' := hW
  obtain ⟨p, q, hA0, hV, rfl, hfz, hnd⟩ := hW
  have hA : DataW.TrodAll enc Try.prog W 0 (fun _ => true) true Try.f3.params.toList args.toList ds p := hA0
  rw [Try.params3] at hA
  obtain ⟨rfl, rfl, rfl⟩ := trodAll_none hA
  obtain ⟨rfl, rfl⟩ := trodVars_none hV
  refine (walk3 W).mono fun e W' ⟨he, hb⟩ => ?_
  subst he
  exact ⟨_, rfl, _, _, _, [], [], [], hW', trodAll_mk1 (shut_bool (by kernel_rfl) _), trodAll_mk0, rfl, hb.frame _, fun h => by cases h⟩

theorem domRuns_holds : Rows.DomRunsSaid :=
  OpenClaim.holds_of_wide 3 Try.f3 rfl rfl rfl rfl rfl rfl rfl ⟨rfl, rfl, rfl, rfl, rfl⟩ rfl rfl rfl rfl rfl (by kernel_rfl) Try.func3 (by kernel_rfl)
    (of_decide_eq_true (by kernel_rfl)) (by unfold Func.isWrapper; first | (rw [if_pos (by decide +kernel)]; kernel_rfl) | (rw [if_neg (by decide +kernel)]; exact ⟨rfl, rfl⟩))
    (fun os started H enc _ => lifted3 os started H enc)
end Runs
end Go.Proofs.Yticnenhajgogcaa

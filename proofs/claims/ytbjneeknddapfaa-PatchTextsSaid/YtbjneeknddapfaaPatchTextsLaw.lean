/- PatchTexts: the law answers true, whatever is handed in. It is shown in two parts: the walk (the text that ends in Walk: the functions of the program as typed Lean functions, each proved against the given model), and the pure law about these (the texts that bear Pure). Its closed sentence is one of these functions, and carried out by the kernel; some functions of Go's library are answered by the kit's contracts. No conditions. -/
import Derived.Test.YtbjneeknddapfaaPartF
import Derived.Test.YtbjneeknddapfaaRows
import Derived.WalkKit
import Derived.ProofKit
import Derived.OpenShut
import Derived.Carry
namespace Go.Proofs.Ytbjneeknddapfaa
namespace PatchTexts
set_option linter.unusedVariables false
open Go.ChangeShapes Go.WideShapes Go.ChangeAt Go.RowKit

theorem own : ownKnob Try.prog.godebug = none := by kernel_rfl

def ren_ins : Go.Shelf.Ren := { f := fun x => bif Nat.beq x 21 then 62 else bif Nat.beq x 27 then 86 else bif Nat.beq x 28 then 87 else bif Nat.beq x 35 then 89 else bif Nat.beq x 39 then 90 else x, t := fun x => bif Nat.beq x 22 then 31 else bif Nat.beq x 3 then 3 else bif Nat.beq x 4 then 4 else bif Nat.beq x 0 then 0 else x, g := fun x => x }
set_option maxRecDepth 100000 in
theorem lay_ins : Go.Proofs.Lays2.n21 Try.prog ren_ins where
  mixed := by kernel_rfl
  f21 := by kernel_rfl
  f27 := by kernel_rfl
  f28 := by kernel_rfl
  f35 := by kernel_rfl
  f39 := by kernel_rfl
  t0 := by kernel_rfl
  a0 := fun w => by kernel_rfl
  z0 := fun w => by kernel_rfl
  v0 := fun w => by kernel_rfl
  t3 := by kernel_rfl
  a3 := fun w => by kernel_rfl
  z3 := fun w => by kernel_rfl
  v3 := fun w => by kernel_rfl
  t4 := by kernel_rfl
  a4 := fun w => by kernel_rfl
  z4 := fun w => by kernel_rfl
  v4 := fun w => by kernel_rfl
  t22 := by kernel_rfl
  a22 := fun w => by kernel_rfl
  z22 := fun w => by kernel_rfl
  v22 := fun w => by kernel_rfl
  i3 := by kernel_rfl


def G : World → (Nat → Nat → Prop) → Prop := Ev.KV
theorem G_ok : Ev.EG G := Ev.J8
theorem R_ok : Ev.ObjOk (Ev.Jz 0 0 G) := Ev.Jv G_ok


theorem E : Ev.Pr.IV (Ev.Jz 0 0 G) where
  obj := ⟨R_ok, fun t k x h => by have h' : (none : Option (Nat × Ev.D)) = some (k, x) := h; cases h'⟩
  insp := (Ev.Iz R_ok lay_ins)
theorem cells9 : Try.prog.cellsOf 9 = 1 := by kernel_rfl
theorem spec (x0 : (List Ev.Str)) (x1 : (List Ev.Str)) : Ev.ib (Ev.Jz 0 0 G) Try.prog 6 [Ev.D.sl (x0.map Ev.D.str) false, Ev.D.sl (x1.map Ev.D.str) false] (.d (.bool true)) :=
  Ev.Pr.xg E 10000 x0 x1 true (Ev.Pr.F7 x0 x1)
theorem walk (w : World) (hG : G w (fun _ _ => False)) (x0 : (List Ev.Str)) (x1 : (List Ev.Str)) (v0 v1 : Value) (r0 : Ev.bC w Ev.EO (Ev.D.sl (x0.map Ev.D.str) false) v0) (r1 : Ev.bC w Ev.EO (Ev.D.sl (x1.map Ev.D.str) false) v1) : Calls Try.prog 6 #[v0, v1] w fun e w' => e = .returned (.bool true) ∧ Below w.heap.size w w' :=
  (Ev.F5 R_ok (spec x0 x1) w hG [v0, v1] rfl (fun i y u hy hu => by
    match i, hy, hu with
    | 0, hy, hu => cases hy; cases hu; exact r0
    | 1, hy, hu => cases hy; cases hu; exact r1
    | i + 2, hy, hu => cases hy)).mono fun e w' ⟨u, he, hu, hb⟩ => by
    have := hu.val rfl
    cases this
    exact ⟨he, hb⟩

theorem laidOut : laidOutB Try.prog = true := by kernel_rfl
set_option maxRecDepth 100000 in
theorem lifted (os : Os) (started : os.Started) (H : Type) (enc : TypeId × Value → H) :
    ReturnsInHanded {} Try.checked os 6 .any (Rows.patchTextsSpec.pre6 enc Try.prog Try.f6 Rows.patchTextsRow.domain false) (Rows.patchTextsSpec.post enc Try.prog Try.f6 false true false false) := by
  refine returnsInHanded_of_change (C := Try.checked) own started (by kernel_rfl) Try.func6
    (ChangeSpec.witness6 (enc := enc) (C := Try.checked) false ⟨#[], #[.slice none 0 0, .slice none 0 0], []⟩ 8 (by kernel_rfl) (by kernel_rfl) (by kernel_rfl) (by kernel_rfl)) ?_
  intro W base args ds gs before hval0 hW hcnd _
  have hval : ∀ (j : Nat) t v, Try.f6.params[j]? = some t → args[j]? = some v → Value.okWide Try.prog W .any base t v := hval0
  have hW' := hW
  obtain ⟨p, q, hA0, hV, rfl, hfz, hnd⟩ := hW
  have hlt : ∀ x ∈ p, x.block < W.heap.size := fun x hx => by simpa using hW'.lt x (by simp [hx])
  have hA : DataW.TrodAll enc Try.prog W 0 (fun _ => true) true Try.f6.params.toList args.toList ds p := hA0
  rw [Try.params6] at hA hval
  obtain ⟨v0, v1, d0, d1, p0, p1, rfl, rfl, rfl, h0, h1⟩ := trodAll_two hA
  obtain ⟨x0, w0, r0⟩ := Ev.Ju (b0 := 0) (Ev.yF.slice Try.underlying58 (Ev.yF.str Try.underlying9) (fun _ => cells9.symm) (by rw [cells9]; decide)) (fun _ => rfl) (by obtain ⟨q, ln, cp, rfl⟩ := okWide_slice Try.underlying58 (hval 0 _ _ rfl rfl); rfl) h0
  obtain ⟨x1, w1, r1⟩ := Ev.Ju (b0 := 0) (Ev.yF.slice Try.underlying58 (Ev.yF.str Try.underlying9) (fun _ => cells9.symm) (by rw [cells9]; decide)) (fun _ => rfl) (by obtain ⟨q, ln, cp, rfl⟩ := okWide_slice Try.underlying58 (hval 1 _ _ rfl rfl); rfl) h1
  obtain ⟨rfl, rfl⟩ := trodVars_none hV
  refine (walk W trivial x0 x1 v0 v1 r0 r1).mono fun e W' ⟨he, hb⟩ => ?_
  subst he
  exact ⟨_, rfl, _, _, _, _, _, _, hW', trodAll_mk1 (shut_bool (by kernel_rfl) _), trodAll_mk2 (Below.trod laidOut (by kernel_rfl) (of_decide_eq_true (by kernel_rfl)) h0 hb (fun x hx => hlt x (by simp [hx]))) (Below.trod laidOut (by kernel_rfl) (of_decide_eq_true (by kernel_rfl)) h1 hb (fun x hx => hlt x (by simp [hx]))), rfl, hb.frame _, fun h => by cases h⟩

theorem said : Rows.PatchTextsSaid :=
  OpenClaim.holds_of_wide 6 Try.f6 rfl rfl rfl rfl rfl rfl rfl ⟨rfl, rfl, rfl, rfl, rfl⟩ rfl rfl rfl rfl rfl (by kernel_rfl) Try.func6 (by kernel_rfl)
    (of_decide_eq_true (by kernel_rfl)) (by unfold Func.isWrapper; first | (rw [if_pos (by decide +kernel)]; kernel_rfl) | (rw [if_neg (by decide +kernel)]; exact ⟨rfl, rfl⟩))
    (fun os started H enc _ => lifted os started H enc)
end PatchTexts
end Go.Proofs.Ytbjneeknddapfaa

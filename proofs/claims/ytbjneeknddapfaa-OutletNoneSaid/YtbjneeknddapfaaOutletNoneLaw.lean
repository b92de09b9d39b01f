/- OutletNone: the law answers true, whatever is handed in. It is shown in two parts: the walk (the text that ends in Walk: the functions of the program as typed Lean functions, each proved against the given model), and the pure law about these (the texts that bear Pure). Its closed sentence is one of these functions, and carried out by the kernel; some functions of Go's library are answered by the kit's contracts. No conditions. -/
import Derived.Test.YtbjneeknddapfaaPartG
import Derived.Test.YtbjneeknddapfaaRows
import Derived.WalkKit
import Derived.ProofKit
import Derived.OpenShut
import Derived.Carry
namespace Go.Proofs.Ytbjneeknddapfaa
namespace OutletNone
set_option linter.unusedVariables false
open Go.ChangeShapes Go.WideShapes Go.ChangeAt Go.RowKit

theorem own : ownKnob Try.prog.godebug = none := by kernel_rfl

def ren_ins : Go.Shelf.Ren := { f := fun x => bif Nat.beq x 21 then 62 else bif Nat.beq x 27 then 86 else bif Nat.beq x 28 then 87 else bif Nat.beq x 35 then 89 else bif Nat.beq x 39 then 90 else x, t := fun x => bif Nat.beq x 22 then 31 else bif Nat.beq x 3 then 3 else bif Nat.beq x 4 then 4 else bif Nat.beq x 0 then 0 else x, g := fun x => x }
set_option maxRecDepth 100000 in
theorem lay_ins : Go.Proofs.Lays2.n21 Try.prog ren_ins where
  mixed := by kernel_rfl
  f21 := by kernel_rfl
  f27 := by kernel_rfl
  f28 := by kernel_rfl
  f35 := by kernel_rfl
  f39 := by kernel_rfl
  t0 := by kernel_rfl
  a0 := fun w => by kernel_rfl
  z0 := fun w => by kernel_rfl
  v0 := fun w => by kernel_rfl
  t3 := by kernel_rfl
  a3 := fun w => by kernel_rfl
  z3 := fun w => by kernel_rfl
  v3 := fun w => by kernel_rfl
  t4 := by kernel_rfl
  a4 := fun w => by kernel_rfl
  z4 := fun w => by kernel_rfl
  v4 := fun w => by kernel_rfl
  t22 := by kernel_rfl
  a22 := fun w => by kernel_rfl
  z22 := fun w => by kernel_rfl
  v22 := fun w => by kernel_rfl
  i3 := by kernel_rfl


def G : World → (Nat → Nat → Prop) → Prop := Ev.OC
theorem G_ok : Ev.Jd G := Ev.NV
theorem R_ok : Ev.ObjOk (Ev.MQ 0 0 G) := Ev.ME G_ok


theorem E : Ev.Pr.Lh (Ev.MQ 0 0 G) where
  obj := ⟨R_ok, fun t k x h => by have h' : (none : Option (Nat × Ev.D)) = some (k, x) := h; cases h'⟩
  insp := (Ev.Lx R_ok lay_ins)
theorem cells3 : Try.prog.cellsOf 3 = 1 := by kernel_rfl
theorem open_K_Wood : Ev.uH Try.prog 65 Ev.Pr.dL (fun _ => True) :=
  Ev.uH.struct (tot := 4) (β := (List Int) × (List Int) × (List Int) × (List Int) × Unit) (enc2 := fun y => ((Ev.MK (Ev.D.int .i64)) y.1).cells ++ (((Ev.MK (Ev.D.int .i64)) y.2.1).cells ++ (((Ev.MK (Ev.D.int .i64)) y.2.2.1).cells ++ (((Ev.MK (Ev.D.int .i64)) y.2.2.2.1).cells ++ ([] : List Ev.D))))) Try.underlying65 (by kernel_rfl) (Ev.Bg.cons (α := (List Int)) (enc := (Ev.MK (Ev.D.int .i64))) (enc2 := fun (y : (List Int) × (List Int) × (List Int) × Unit) => ((Ev.MK (Ev.D.int .i64)) y.1).cells ++ (((Ev.MK (Ev.D.int .i64)) y.2.1).cells ++ (((Ev.MK (Ev.D.int .i64)) y.2.2.1).cells ++ (([] : List Ev.D))))) (sz := 1) (tot := 3) rfl (by kernel_rfl) (Ev.uH.slice Try.underlying31 (Ev.uH.int Try.underlying3) (fun _ => cells3.symm) (by rw [cells3]; decide)) (Ev.Bg.cons (α := (List Int)) (enc := (Ev.MK (Ev.D.int .i64))) (enc2 := fun (y : (List Int) × (List Int) × Unit) => ((Ev.MK (Ev.D.int .i64)) y.1).cells ++ (((Ev.MK (Ev.D.int .i64)) y.2.1).cells ++ (([] : List Ev.D)))) (sz := 1) (tot := 2) rfl (by kernel_rfl) (Ev.uH.slice Try.underlying31 (Ev.uH.int Try.underlying3) (fun _ => cells3.symm) (by rw [cells3]; decide)) (Ev.Bg.cons (α := (List Int)) (enc := (Ev.MK (Ev.D.int .i64))) (enc2 := fun (y : (List Int) × Unit) => ((Ev.MK (Ev.D.int .i64)) y.1).cells ++ (([] : List Ev.D))) (sz := 1) (tot := 1) rfl (by kernel_rfl) (Ev.uH.slice Try.underlying31 (Ev.uH.int Try.underlying3) (fun _ => cells3.symm) (by rw [cells3]; decide)) (Ev.Bg.cons (α := (List Int)) (enc := (Ev.MK (Ev.D.int .i64))) (enc2 := fun (y : Unit) => ([] : List Ev.D)) (sz := 1) (tot := 0) rfl (by kernel_rfl) (Ev.uH.slice Try.underlying31 (Ev.uH.int Try.underlying3) (fun _ => cells3.symm) (by rw [cells3]; decide)) Ev.Bg.nil)))) (fun y => ⟨y.1, y.2.1, y.2.2.1, y.2.2.2.1⟩) (fun y => rfl) (fun _ _ => trivial)
theorem spec (x0 : Ev.Pr.fA) (x1 : Int) : Ev.fE (Ev.MQ 0 0 G) Try.prog 11 [Ev.Pr.dL x0, Ev.D.int .i64 x1] (.d (.bool true)) :=
  Ev.Pr.zS E 10000 x0 x1 true (Ev.Pr.Js x0 x1)
theorem walk (w : World) (hG : G w (fun _ _ => False)) (x0 : Ev.Pr.fA) (x1 : Int) (v0 v1 : Value) (r0 : Ev.bJ w Ev.F4 (Ev.Pr.dL x0) v0) (r1 : Ev.bJ w Ev.F4 (Ev.D.int .i64 x1) v1) : Calls Try.prog 11 #[v0, v1] w fun e w' => e = .returned (.bool true) ∧ Below w.heap.size w w' :=
  (Ev.Jr R_ok (spec x0 x1) w hG [v0, v1] rfl (fun i y u hy hu => by
    match i, hy, hu with
    | 0, hy, hu => cases hy; cases hu; exact r0
    | 1, hy, hu => cases hy; cases hu; exact r1
    | i + 2, hy, hu => cases hy)).mono fun e w' ⟨u, he, hu, hb⟩ => by
    have := hu.val rfl
    cases this
    exact ⟨he, hb⟩

theorem laidOut : laidOutB Try.prog = true := by kernel_rfl
set_option maxRecDepth 100000 in
theorem lifted (os : Os) (started : os.Started) (H : Type) (enc : TypeId × Value → H) :
    ReturnsInHanded {} Try.checked os 11 .any (Rows.outletNoneSpec.pre6 enc Try.prog Try.f11 Rows.outletNoneRow.domain false) (Rows.outletNoneSpec.post enc Try.prog Try.f11 false true false false) := by
  refine returnsInHanded_of_change (C := Try.checked) own started (by kernel_rfl) Try.func11
    (ChangeSpec.witness6 (enc := enc) (C := Try.checked) false ⟨#[], #[.agg #[.slice none 0 0, .slice none 0 0, .slice none 0 0, .slice none 0 0], .int .i64 0], []⟩ 8 (by kernel_rfl) (by kernel_rfl) (by kernel_rfl) (by kernel_rfl)) ?_
  intro W base args ds gs before hval0 hW hcnd _
  have hval : ∀ (j : Nat) t v, Try.f11.params[j]? = some t → args[j]? = some v → Value.okWide Try.prog W .any base t v := hval0
  have hW' := hW
  obtain ⟨p, q, hA0, hV, rfl, hfz, hnd⟩ := hW
  have hlt : ∀ x ∈ p, x.block < W.heap.size := fun x hx => by simpa using hW'.lt x (by simp [hx])
  have hA : DataW.TrodAll enc Try.prog W 0 (fun _ => true) true Try.f11.params.toList args.toList ds p := hA0
  rw [Try.params11] at hA hval
  obtain ⟨v0, v1, d0, d1, p0, p1, rfl, rfl, rfl, h0, h1⟩ := trodAll_two hA
  obtain ⟨x0, w0, r0⟩ := Ev.K5 Try.underlying65 open_K_Wood Ev.Pr.fA.agg (hval 0 _ _ rfl rfl) h0
  obtain ⟨x1, w1, r1⟩ := Ev.MF (b0 := 0) (Ev.uH.int Try.underlying3) (fun _ => rfl) (by obtain ⟨q, rfl⟩ := okWide_int Try.underlying3 (hval 1 _ _ rfl rfl); rfl) h1
  obtain ⟨rfl, rfl⟩ := trodVars_none hV
  refine (walk W trivial x0 x1 v0 v1 r0 r1).mono fun e W' ⟨he, hb⟩ => ?_
  subst he
  exact ⟨_, rfl, _, _, _, _, _, _, hW', trodAll_mk1 (shut_bool (by kernel_rfl) _), trodAll_mk2 (Below.trod laidOut (by kernel_rfl) (of_decide_eq_true (by kernel_rfl)) h0 hb (fun x hx => hlt x (by simp [hx]))) (Below.trod laidOut (by kernel_rfl) (of_decide_eq_true (by kernel_rfl)) h1 hb (fun x hx => hlt x (by simp [hx]))), rfl, hb.frame _, fun h => by cases h⟩

theorem said : Rows.OutletNoneSaid :=
  OpenClaim.holds_of_wide 11 Try.f11 rfl rfl rfl rfl rfl rfl rfl ⟨rfl, rfl, rfl, rfl, rfl⟩ rfl rfl rfl rfl rfl (by kernel_rfl) Try.func11 (by kernel_rfl)
    (of_decide_eq_true (by kernel_rfl)) (by unfold Func.isWrapper; first | (rw [if_pos (by decide +kernel)]; kernel_rfl) | (rw [if_neg (by decide +kernel)]; exact ⟨rfl, rfl⟩))
    (fun os started H enc _ => lifted os started H enc)
end OutletNone
end Go.Proofs.Ytbjneeknddapfaa

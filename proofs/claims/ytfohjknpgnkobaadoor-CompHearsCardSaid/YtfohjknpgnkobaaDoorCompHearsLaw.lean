/- CompHears: the law answers true, whatever is handed in. It is shown in two parts: the walk (the text that ends in Walk: the functions of the program as typed Lean functions, each proved against the given model), and the pure law about these (the texts that bear Pure). Its closed sentence CompRuns is carried out by an evaluation that is proved right; some functions of Go's library are answered by the kit's contracts. The card ties the listed tables to the program's text; it speaks of a pruned copy of the project (the packages that the seat's roots load). No conditions. -/
import Derived.Test.YtfohjknpgnkobaaDoorPartF
import Derived.Test.YtfohjknpgnkobaaDoorRows
import Derived.Test.YtfohjknpgnkobaaDoorCards
import Derived.Test.YtfohjknpgnkobaaDoorTie
import Derived.WalkKit
import Derived.ProofKit
import Derived.OpenShut
import Derived.Carry
import Derived.Deep.DeepHandedRow
import Derived.Lib.LaidIn
import Derived.Lib.LaidU8T
import Derived.Shelf.Vars
namespace Go.Proofs.YtfohjknpgnkobaaDoor
namespace CompHears
set_option linter.unusedVariables false
open Go.ChangeShapes Go.WideShapes Go.ChangeAt Go.RowKit

theorem own : ownKnob Tryd.prog.godebug = none := by kernel_rfl

def ren_trim : Go.Shelf.Ren := { f := fun x => bif Nat.beq x 160 then 23 else bif Nat.beq x 232 then 37 else bif Nat.beq x 231 then 36 else bif Nat.beq x 227 then 38 else bif Nat.beq x 234 then 40 else bif Nat.beq x 233 then 39 else bif Nat.beq x 236 then 42 else bif Nat.beq x 235 then 41 else bif Nat.beq x 228 then 47 else bif Nat.beq x 271 then 50 else bif Nat.beq x 151 then 49 else bif Nat.beq x 197 then 48 else bif Nat.beq x 120 then 53 else bif Nat.beq x 152 then 52 else bif Nat.beq x 260 then 51 else bif Nat.beq x 137 then 54 else bif Nat.beq x 119 then 55 else bif Nat.beq x 224 then 56 else bif Nat.beq x 225 then 57 else bif Nat.beq x 217 then 58 else bif Nat.beq x 266 then 59 else x, t := fun x => bif Nat.beq x 9 then 9 else bif Nat.beq x 4 then 4 else bif Nat.beq x 3 then 3 else bif Nat.beq x 5 then 5 else bif Nat.beq x 117 then 77 else bif Nat.beq x 116 then 76 else bif Nat.beq x 0 then 0 else bif Nat.beq x 124 then 80 else bif Nat.beq x 21 then 21 else bif Nat.beq x 105 then 86 else bif Nat.beq x 46 then 91 else bif Nat.beq x 119 then 90 else bif Nat.beq x 139 then 94 else bif Nat.beq x 138 then 93 else bif Nat.beq x 20 then 20 else x, g := fun x => bif Nat.beq x 3 then 0 else bif Nat.beq x 4 then 1 else x }
set_option maxRecDepth 100000 in
theorem lay_trim : Go.Proofs.Lays.n160 Tryd.prog ren_trim where
  mixed := by kernel_rfl
  f119 := by kernel_rfl
  f120 := by kernel_rfl
  f137 := by kernel_rfl
  f151 := by kernel_rfl
  f152 := by kernel_rfl
  f160 := by kernel_rfl
  f197 := by kernel_rfl
  f217 := by kernel_rfl
  f224 := by kernel_rfl
  f225 := by kernel_rfl
  f227 := by kernel_rfl
  f228 := by kernel_rfl
  f231 := by kernel_rfl
  f232 := by kernel_rfl
  f233 := by kernel_rfl
  f234 := by kernel_rfl
  f235 := by kernel_rfl
  f236 := by kernel_rfl
  f260 := by kernel_rfl
  f266 := by kernel_rfl
  f271 := by kernel_rfl
  t0 := by kernel_rfl
  a0 := fun w => by kernel_rfl
  z0 := fun w => by kernel_rfl
  v0 := fun w => by kernel_rfl
  t3 := by kernel_rfl
  a3 := fun w => by kernel_rfl
  z3 := fun w => by kernel_rfl
  v3 := fun w => by kernel_rfl
  t4 := by kernel_rfl
  a4 := fun w => by kernel_rfl
  z4 := fun w => by kernel_rfl
  v4 := fun w => by kernel_rfl
  t5 := by kernel_rfl
  a5 := fun w => by kernel_rfl
  z5 := fun w => by kernel_rfl
  v5 := fun w => by kernel_rfl
  t9 := by kernel_rfl
  a9 := fun w => by kernel_rfl
  z9 := fun w => by kernel_rfl
  v9 := fun w => by kernel_rfl
  t21 := by kernel_rfl
  a21 := fun w => by kernel_rfl
  z21 := fun w => by kernel_rfl
  v21 := fun w => by kernel_rfl
  t46 := by kernel_rfl
  a46 := fun w => by kernel_rfl
  z46 := fun w => by kernel_rfl
  v46 := fun w => by kernel_rfl
  t105 := by kernel_rfl
  a105 := fun w => by kernel_rfl
  z105 := fun w => by kernel_rfl
  v105 := fun w => by kernel_rfl
  t116 := by kernel_rfl
  a116 := fun w => by kernel_rfl
  z116 := fun w => by kernel_rfl
  t117 := by kernel_rfl
  a117 := fun w => by kernel_rfl
  z117 := fun w => by kernel_rfl
  v117 := fun w => by kernel_rfl
  t119 := by kernel_rfl
  a119 := fun w => by kernel_rfl
  z119 := fun w => by kernel_rfl
  t124 := by kernel_rfl
  a124 := fun w => by kernel_rfl
  z124 := fun w => by kernel_rfl
  v124 := fun w => by kernel_rfl
  t138 := by kernel_rfl
  a138 := fun w => by kernel_rfl
  z138 := fun w => by kernel_rfl
  v138 := fun w => by kernel_rfl
  t139 := by kernel_rfl
  a139 := fun w => by kernel_rfl
  z139 := fun w => by kernel_rfl
  v139 := fun w => by kernel_rfl
  g3 := by kernel_rfl
  g4 := by kernel_rfl
theorem h116_trim : (Tryd.prog.info? (ren_trim.t 116)).map (fun i => (i.zero, i.size)) = some (some (.agg (Array.replicate 256 (.bool false))), 256) := by kernel_rfl


def goodL : List Nat := List.range 81
def rowsL : List Nat := [27]
noncomputable def prims : Ev.AL Ev.Prim := [(23, Ev.purePrim Ev.trimSpec)]
noncomputable def cfg : Ev.Cfg := Ev.theCfg Tryd.prog goodL rowsL prims false 0
def G : World → (Nat → Nat → Prop) → Prop := Ev.noG
theorem G_ok : Ev.StatOk G := Ev.noG_ok
theorem R_ok : Ev.ObjOk (Ev.theR 0 0 G) := Ev.theR_ok G_ok
theorem prims_ok : Ev.primsOk (Ev.theR 0 0 G) Tryd.prog prims := ⟨Ev.trimPrim_ok R_ok lay_trim h116_trim, trivial⟩
theorem cfg_ok : Ev.CfgOk (Ev.theR 0 0 G) cfg := Ev.theCfg_ok G_ok (by kernel_rfl) (by kernel_rfl) (fun q => by cases q) prims_ok
theorem ev : Ev.evF cfg 60 10 (([] : List Ev.D).map .d) Ev.pureSt = some [(none, .d (.bool true), Ev.pureSt)] := by kernel_rfl


theorem E : Ev.Pr.PrOk (Ev.theR 0 0 G) where
  obj := ⟨R_ok, fun t k x h => by have h' : (none : Option (Nat × Ev.D)) = some (k, x) := h; cases h'⟩
  strings_Trim_ok := fun n x0 x1 r h => Ev.SpecC.of_pure (Ev.trimPrim_ok R_ok lay_trim h116_trim) (by unfold Ev.strings_Trim at h; unfold Ev.trimSpec; split at h <;> simp_all)
  porticolaw17_CompRuns_ok := fun n r h => by cases h; exact Ev.SpecC.of_ev cfg_ok ev
theorem cells3 : Tryd.prog.cellsOf 3 = 1 := by kernel_rfl
theorem open_K_Sheet : Ev.OpenC Tryd.prog 42 Ev.Pr.encK_Sheet (fun _ => True) :=
  Ev.OpenC.struct (tot := 4) (β := (List Int) × (List Int) × (List Int) × (List Int) × Unit) (enc2 := fun y => ((Ev.encL (Ev.D.int .i64)) y.1).cells ++ (((Ev.encL (Ev.D.int .i64)) y.2.1).cells ++ (((Ev.encL (Ev.D.int .i64)) y.2.2.1).cells ++ (((Ev.encL (Ev.D.int .i64)) y.2.2.2.1).cells ++ ([] : List Ev.D))))) Tryd.underlying42 (by kernel_rfl) (Ev.OpenF.cons (α := (List Int)) (enc := (Ev.encL (Ev.D.int .i64))) (enc2 := fun (y : (List Int) × (List Int) × (List Int) × Unit) => ((Ev.encL (Ev.D.int .i64)) y.1).cells ++ (((Ev.encL (Ev.D.int .i64)) y.2.1).cells ++ (((Ev.encL (Ev.D.int .i64)) y.2.2.1).cells ++ (([] : List Ev.D))))) (sz := 1) (tot := 3) rfl (by kernel_rfl) (Ev.OpenC.slice Tryd.underlying27 (Ev.OpenC.int Tryd.underlying3) (fun _ => cells3.symm) (by rw [cells3]; decide)) (Ev.OpenF.cons (α := (List Int)) (enc := (Ev.encL (Ev.D.int .i64))) (enc2 := fun (y : (List Int) × (List Int) × Unit) => ((Ev.encL (Ev.D.int .i64)) y.1).cells ++ (((Ev.encL (Ev.D.int .i64)) y.2.1).cells ++ (([] : List Ev.D)))) (sz := 1) (tot := 2) rfl (by kernel_rfl) (Ev.OpenC.slice Tryd.underlying27 (Ev.OpenC.int Tryd.underlying3) (fun _ => cells3.symm) (by rw [cells3]; decide)) (Ev.OpenF.cons (α := (List Int)) (enc := (Ev.encL (Ev.D.int .i64))) (enc2 := fun (y : (List Int) × Unit) => ((Ev.encL (Ev.D.int .i64)) y.1).cells ++ (([] : List Ev.D))) (sz := 1) (tot := 1) rfl (by kernel_rfl) (Ev.OpenC.slice Tryd.underlying27 (Ev.OpenC.int Tryd.underlying3) (fun _ => cells3.symm) (by rw [cells3]; decide)) (Ev.OpenF.cons (α := (List Int)) (enc := (Ev.encL (Ev.D.int .i64))) (enc2 := fun (y : Unit) => ([] : List Ev.D)) (sz := 1) (tot := 0) rfl (by kernel_rfl) (Ev.OpenC.slice Tryd.underlying27 (Ev.OpenC.int Tryd.underlying3) (fun _ => cells3.symm) (by rw [cells3]; decide)) Ev.OpenF.nil)))) (fun y => ⟨y.1, y.2.1, y.2.2.1, y.2.2.2.1⟩) (fun y => rfl) (fun _ _ => trivial)
theorem open_K_Part : Ev.OpenC Tryd.prog 44 Ev.Pr.encK_Part (fun _ => True) :=
  Ev.OpenC.struct (tot := 7) (β := Ev.Pr.K_Sheet × (List Int) × (List Int) × Bool × Unit) (enc2 := fun y => (Ev.Pr.encK_Sheet y.1).cells ++ (((Ev.encL (Ev.D.int .i64)) y.2.1).cells ++ (((Ev.encL (Ev.D.int .i64)) y.2.2.1).cells ++ ((Ev.D.bool y.2.2.2.1).cells ++ ([] : List Ev.D))))) Tryd.underlying44 (by kernel_rfl) (Ev.OpenF.cons (α := Ev.Pr.K_Sheet) (enc := Ev.Pr.encK_Sheet) (enc2 := fun (y : (List Int) × (List Int) × Bool × Unit) => ((Ev.encL (Ev.D.int .i64)) y.1).cells ++ (((Ev.encL (Ev.D.int .i64)) y.2.1).cells ++ ((Ev.D.bool y.2.2.1).cells ++ (([] : List Ev.D))))) (sz := 4) (tot := 3) rfl (by kernel_rfl) open_K_Sheet (Ev.OpenF.cons (α := (List Int)) (enc := (Ev.encL (Ev.D.int .i64))) (enc2 := fun (y : (List Int) × Bool × Unit) => ((Ev.encL (Ev.D.int .i64)) y.1).cells ++ ((Ev.D.bool y.2.1).cells ++ (([] : List Ev.D)))) (sz := 1) (tot := 2) rfl (by kernel_rfl) (Ev.OpenC.slice Tryd.underlying27 (Ev.OpenC.int Tryd.underlying3) (fun _ => cells3.symm) (by rw [cells3]; decide)) (Ev.OpenF.cons (α := (List Int)) (enc := (Ev.encL (Ev.D.int .i64))) (enc2 := fun (y : Bool × Unit) => (Ev.D.bool y.1).cells ++ (([] : List Ev.D))) (sz := 1) (tot := 1) rfl (by kernel_rfl) (Ev.OpenC.slice Tryd.underlying27 (Ev.OpenC.int Tryd.underlying3) (fun _ => cells3.symm) (by rw [cells3]; decide)) (Ev.OpenF.cons (α := Bool) (enc := Ev.D.bool) (enc2 := fun (y : Unit) => ([] : List Ev.D)) (sz := 1) (tot := 0) rfl (by kernel_rfl) (Ev.OpenC.bool Tryd.underlying4) Ev.OpenF.nil)))) (fun y => ⟨y.1, y.2.1, y.2.2.1, y.2.2.2.1⟩) (fun y => rfl) (fun _ _ => trivial)
theorem cells9 : Tryd.prog.cellsOf 9 = 1 := by kernel_rfl
theorem spec (x0 : Ev.Pr.K_Part) (x1 : (List Ev.Str)) (x2 : Bool) : Ev.SpecC (Ev.theR 0 0 G) Tryd.prog 4 [Ev.Pr.encK_Part x0, Ev.D.sl (x1.map Ev.D.str) false, Ev.D.bool x2] (.d (.bool true)) :=
  Ev.Pr.porticolaw17_CompHears_ok E 1000 x0 x1 x2 true (Ev.Pr.compHears_ok x0 x1 x2)
theorem walk (w : World) (hG : G w (fun _ _ => False)) (x0 : Ev.Pr.K_Part) (x1 : (List Ev.Str)) (x2 : Bool) (v0 v1 v2 : Value) (r0 : Ev.DRel w Ev.noFr (Ev.Pr.encK_Part x0) v0) (r1 : Ev.DRel w Ev.noFr (Ev.D.sl (x1.map Ev.D.str) false) v1) (r2 : Ev.DRel w Ev.noFr (Ev.D.bool x2) v2) : Calls Tryd.prog 4 #[v0, v1, v2] w fun e w' => e = .returned (.bool true) ∧ Below w.heap.size w w' :=
  (Ev.calls_of_spec R_ok (spec x0 x1 x2) w hG [v0, v1, v2] rfl (fun i y u hy hu => by
    match i, hy, hu with
    | 0, hy, hu => cases hy; cases hu; exact r0
    | 1, hy, hu => cases hy; cases hu; exact r1
    | 2, hy, hu => cases hy; cases hu; exact r2
    | i + 3, hy, hu => cases hy)).mono fun e w' ⟨u, he, hu, hb⟩ => by
    have := hu.val rfl
    cases this
    exact ⟨he, hb⟩

theorem laidOut : laidOutB Tryd.prog = true := by kernel_rfl
/-- The witness: the settled world, the listed variables holding what their initialisers lay. -/
noncomputable def laidWorld (os : Os) : World :=
  let w0 := World.holding Tryd.prog os ⟨#[], #[.agg #[.slice none 0 0, .slice none 0 0, .slice none 0 0, .slice none 0 0, .slice none 0 0, .slice none 0 0, .bool false], .slice none 0 0, .bool false], []⟩
  let put (h : Array Obj) (g : Nat) (cs : Array Value) : Array Obj := h.modify g fun
    | .cells _ t frozen => .cells cs t frozen
    | o => o
  let h1 := put w0.heap 1 ((List.range 16).flatMap fun i => [Value.int .u8 (Lib.accLo i), Value.int .u8 (Lib.accHi i)]).toArray
  let h2 := put h1 0 (Lib.firstTab.map fun z => Value.int .u8 z).toArray
  { w0 with heap := h2 }
theorem laid_met (os : Os) : laidMet Tryd.prog Rows.compHearsRow.laid ((laidWorld os).forCall (fun _ _ => 0) ⟨#[], #[.agg #[.slice none 0 0, .slice none 0 0, .slice none 0 0, .slice none 0 0, .slice none 0 0, .slice none 0 0, .bool false], .slice none 0 0, .bool false], []⟩).memory :=
  (LaidIn.of_run (l := Rows.compHearsRow.laid) [1, 0] 8 (by kernel_rfl) (by kernel_rfl) (by kernel_rfl) (by kernel_rfl)).met
theorem reads (os : Os) {H : Type} (enc : TypeId × Value → H) : ∃ places, DataW.whole enc Tryd.prog ((laidWorld os).forCall (fun _ _ => 0) ⟨#[], #[.agg #[.slice none 0 0, .slice none 0 0, .slice none 0 0, .slice none 0 0, .slice none 0 0, .slice none 0 0, .bool false], .slice none 0 0, .bool false], []⟩).memory Tryd.f4.params.toList Rows.compHearsSpec.vars false (#[.agg #[.slice none 0 0, .slice none 0 0, .slice none 0 0, .slice none 0 0, .slice none 0 0, .slice none 0 0, .bool false], .slice none 0 0, .bool false] : Array Value).toList 8 = some ([.agg [.agg [.nil, .nil, .nil, .nil], .nil, .nil, .lit (.bool false)], .nil, .lit (.bool false)], [], places) :=
  ⟨[], by kernel_rfl⟩

set_option maxRecDepth 100000 in
theorem lifted (os : Os) (started : os.Started) (H : Type) (enc : TypeId × Value → H) (F : Stop.Interp) :
    ReturnsInHanded {} Tryd.checked os 4 .any ((OpenSpec.ofChange Rows.compHearsSpec).preRow enc Tryd.prog Tryd.f4 Rows.compHearsRow.domain false Rows.compHearsRow.laid) (((OpenSpec.ofChange Rows.compHearsSpec).at F).post enc Tryd.prog Tryd.f4 false true false false) := by
  obtain ⟨places, hx⟩ := reads os enc
  refine returnsInHanded_of_row (C := Tryd.checked) (s := OpenSpec.ofChange Rows.compHearsSpec) own started (by kernel_rfl) Tryd.func4
    (witness_row_at (enc := enc) (C := Tryd.checked) false (laidWorld os) #[.agg #[.slice none 0 0, .slice none 0 0, .slice none 0 0, .slice none 0 0, .slice none 0 0, .slice none 0 0, .bool false], .slice none 0 0, .bool false] rfl (by kernel_rfl) (by kernel_rfl) (by kernel_rfl)
      (OpenSpec.preRow_of_cond 8 hx (by kernel_rfl) (fun k hk => by cases hk) (by kernel_rfl) (laid_met os))) ?_
  intro W base args ds gs before hval hW _ _ _ hL hsh _
  have hW' := hW
  obtain ⟨p, q, hA0, hV, rfl, hfz, hnd⟩ := hW
  have hlt : ∀ x ∈ p, x.block < W.heap.size := fun x hx => by simpa using hW'.lt x (by simp [hx])
  have hA : DataW.TrodAll enc Tryd.prog W 0 (fun _ => true) true Tryd.f4.params.toList args.toList ds p := hA0
  rw [Tryd.params4] at hA hval
  obtain ⟨v0, v1, v2, d0, d1, d2, p0, p1, p2, rfl, rfl, rfl, h0, h1, h2⟩ := trodAll_three hA
  obtain ⟨x0, w0, r0⟩ := Ev.arg_struct Tryd.underlying44 open_K_Part Ev.Pr.K_Part.agg (hval 0 _ _ rfl rfl) h0
  obtain ⟨x1, w1, r1⟩ := Ev.arg_one (b0 := 0) (Ev.OpenC.slice Tryd.underlying45 (Ev.OpenC.str Tryd.underlying9) (fun _ => cells9.symm) (by rw [cells9]; decide)) (fun _ => rfl) (by obtain ⟨q, ln, cp, rfl⟩ := okWide_slice Tryd.underlying45 (hval 1 _ _ rfl rfl); rfl) h1
  obtain ⟨x2, w2, r2⟩ := Ev.arg_one (b0 := 0) (Ev.OpenC.bool Tryd.underlying4) (fun _ => rfl) (by obtain ⟨q, rfl⟩ := okWide_bool Tryd.underlying4 (hval 2 _ _ rfl rfl); rfl) h2
  obtain ⟨rfl, rfl⟩ := trodVars_none hV
  refine (walk W trivial x0 x1 x2 v0 v1 v2 r0 r1 r2).mono fun e W' ⟨he, hb⟩ => ?_
  subst he
  exact ⟨_, rfl, _, _, _, _, _, _, hW', trodAll_mk1 (shut_bool (by kernel_rfl) _), trodAll_mk3 (Below.trod laidOut (by kernel_rfl) (of_decide_eq_true (by kernel_rfl)) h0 hb (fun x hx => hlt x (by simp [hx]))) (Below.trod laidOut (by kernel_rfl) (of_decide_eq_true (by kernel_rfl)) h1 hb (fun x hx => hlt x (by simp [hx]))) (Below.trod laidOut (by kernel_rfl) (of_decide_eq_true (by kernel_rfl)) h2 hb (fun x hx => hlt x (by simp [hx]))), rfl, hb.frame _, fun h => by cases h⟩

theorem said : Rows.CompHearsSaid :=
  OpenClaim.holds_of_cond 4 Tryd.f4 rfl rfl rfl rfl rfl rfl rfl ⟨rfl, rfl, rfl, rfl, rfl⟩ rfl rfl rfl rfl rfl (by kernel_rfl) Tryd.func4 (by kernel_rfl)
    (of_decide_eq_true (by kernel_rfl)) (by unfold Func.isWrapper; first | (rw [if_pos (by decide +kernel)]; kernel_rfl) | (rw [if_neg (by decide +kernel)]; exact ⟨rfl, rfl⟩))
    (fun os started H enc _ F => by rw [OpenClaim.pre_eq_preRow]; exact lifted os started H enc F)

theorem plain (f : FuncId) (fn : Func) (hf : Tryd.pinned.checked.prog.funcNamed "portico/porticolaw17.CompHears" = some f) (hfn : Tryd.pinned.checked.prog.funcs[f]? = some fn) :
    false = Tryd.pinned.checked.prog.looks [] ∧ ∀ (j : Nat) t, fn.params[j]? = some t → Tryd.pinned.checked.prog.wantsStandIn t = false := by
  obtain rfl : f = 4 := Option.some.inj ((show Tryd.prog.funcNamed "portico/porticolaw17.CompHears" = some 4 by kernel_rfl).symm.trans hf) |>.symm
  obtain rfl : fn = Tryd.f4 := (Option.some.inj (Tryd.func4.symm.trans hfn)).symm
  refine ⟨by kernel_rfl, fun j t ht => ?_⟩
  rw [Tryd.params4] at ht
  match j with
  | 0 =>
    obtain rfl := Option.some.inj ht
    exact (show Tryd.prog.wantsStandIn 44 = false by kernel_rfl)
  | 1 =>
    obtain rfl := Option.some.inj ht
    exact (show Tryd.prog.wantsStandIn 45 = false by kernel_rfl)
  | 2 =>
    obtain rfl := Option.some.inj ht
    exact (show Tryd.prog.wantsStandIn 4 = false by kernel_rfl)
  | j + 3 => cases ht

theorem card : Rows.CompHearsCardSaid :=
  Claim7.holds_tied_plain_at .later [] _ _ _ _ said (fun _ h => by cases h) (by kernel_rfl) (fun _ h => by cases h) compHears_row_tie rfl ⟨rfl, rfl⟩ (by kernel_rfl) rfl plain (by kernel_rfl)
end CompHears
end Go.Proofs.YtfohjknpgnkobaaDoor

/- PageTells: the law answers true, whatever is handed in. It is shown in two parts: the walk (the text that ends in Walk: the functions of the program as typed Lean functions, each proved against the given model), and the pure law about these (the texts that bear Pure). Its closed sentence is one of these functions, and carried out by the kernel; some functions of Go's library are answered by the kit's contracts. The card ties the listed tables to the program's text; it speaks of a pruned copy of the project (the packages that the seat's roots load). No conditions. -/
import Derived.Test.YtpbfidcmnkmkiaaDoorPartF
import Derived.Test.YtpbfidcmnkmkiaaDoorRows
import Derived.Test.YtpbfidcmnkmkiaaDoorCards
import Derived.Test.YtpbfidcmnkmkiaaDoorTie
import Derived.Test.YtpbfidcmnkmkiaaDoorCards
import Derived.Test.YtpbfidcmnkmkiaaDoorTie
import Derived.WalkKit
import Derived.ProofKit
import Derived.OpenShut
import Derived.Carry
import Derived.Deep.DeepHandedRow
import Derived.Lib.LaidIn
import Derived.Lib.LaidU8T
import Derived.Shelf.Vars
import Derived.Stop.LaidErr
import Derived.Deep.DeepHandedRow
import Derived.Lib.LaidIn
import Derived.Lib.LaidU8T
import Derived.Shelf.Vars
namespace Go.Proofs.YtpbfidcmnkmkiaaDoor
namespace PageTells
set_option linter.unusedVariables false
open Go.ChangeShapes Go.WideShapes Go.ChangeAt Go.RowKit

theorem own : ownKnob Tryd.prog.godebug = none := by kernel_rfl

def ren_trim : Go.Shelf.Ren := { f := fun x => bif Nat.beq x 160 then 74 else bif Nat.beq x 232 then 83 else bif Nat.beq x 231 then 82 else bif Nat.beq x 227 then 84 else bif Nat.beq x 234 then 86 else bif Nat.beq x 233 then 85 else bif Nat.beq x 236 then 88 else bif Nat.beq x 235 then 87 else bif Nat.beq x 228 then 95 else bif Nat.beq x 271 then 98 else bif Nat.beq x 151 then 97 else bif Nat.beq x 197 then 96 else bif Nat.beq x 120 then 106 else bif Nat.beq x 152 then 105 else bif Nat.beq x 260 then 104 else bif Nat.beq x 137 then 109 else bif Nat.beq x 119 then 110 else bif Nat.beq x 224 then 111 else bif Nat.beq x 225 then 112 else bif Nat.beq x 217 then 113 else bif Nat.beq x 266 then 114 else x, t := fun x => bif Nat.beq x 9 then 9 else bif Nat.beq x 4 then 4 else bif Nat.beq x 3 then 3 else bif Nat.beq x 5 then 5 else bif Nat.beq x 117 then 126 else bif Nat.beq x 116 then 125 else bif Nat.beq x 0 then 0 else bif Nat.beq x 124 then 129 else bif Nat.beq x 21 then 21 else bif Nat.beq x 105 then 138 else bif Nat.beq x 46 then 145 else bif Nat.beq x 119 then 149 else bif Nat.beq x 139 then 152 else bif Nat.beq x 138 then 151 else bif Nat.beq x 20 then 20 else bif Nat.beq x 37 then 115 else x, g := fun x => bif Nat.beq x 3 then 1 else bif Nat.beq x 4 then 2 else x }
set_option maxRecDepth 100000 in
theorem lay_trim : Go.Proofs.Lays.n160 Tryd.prog ren_trim where
  mixed := by kernel_rfl
  f119 := by kernel_rfl
  f120 := by kernel_rfl
  f137 := by kernel_rfl
  f151 := by kernel_rfl
  f152 := by kernel_rfl
  f160 := by kernel_rfl
  f197 := by kernel_rfl
  f217 := by kernel_rfl
  f224 := by kernel_rfl
  f225 := by kernel_rfl
  f227 := by kernel_rfl
  f228 := by kernel_rfl
  f231 := by kernel_rfl
  f232 := by kernel_rfl
  f233 := by kernel_rfl
  f234 := by kernel_rfl
  f235 := by kernel_rfl
  f236 := by kernel_rfl
  f260 := by kernel_rfl
  f266 := by kernel_rfl
  f271 := by kernel_rfl
  t0 := by kernel_rfl
  a0 := fun w => by kernel_rfl
  z0 := fun w => by kernel_rfl
  v0 := fun w => by kernel_rfl
  t3 := by kernel_rfl
  a3 := fun w => by kernel_rfl
  z3 := fun w => by kernel_rfl
  v3 := fun w => by kernel_rfl
  t4 := by kernel_rfl
  a4 := fun w => by kernel_rfl
  z4 := fun w => by kernel_rfl
  v4 := fun w => by kernel_rfl
  t5 := by kernel_rfl
  a5 := fun w => by kernel_rfl
  z5 := fun w => by kernel_rfl
  v5 := fun w => by kernel_rfl
  t9 := by kernel_rfl
  a9 := fun w => by kernel_rfl
  z9 := fun w => by kernel_rfl
  v9 := fun w => by kernel_rfl
  t21 := by kernel_rfl
  a21 := fun w => by kernel_rfl
  z21 := fun w => by kernel_rfl
  v21 := fun w => by kernel_rfl
  t46 := by kernel_rfl
  a46 := fun w => by kernel_rfl
  z46 := fun w => by kernel_rfl
  v46 := fun w => by kernel_rfl
  t105 := by kernel_rfl
  a105 := fun w => by kernel_rfl
  z105 := fun w => by kernel_rfl
  v105 := fun w => by kernel_rfl
  t116 := by kernel_rfl
  a116 := fun w => by kernel_rfl
  z116 := fun w => by kernel_rfl
  t117 := by kernel_rfl
  a117 := fun w => by kernel_rfl
  z117 := fun w => by kernel_rfl
  v117 := fun w => by kernel_rfl
  t119 := by kernel_rfl
  a119 := fun w => by kernel_rfl
  z119 := fun w => by kernel_rfl
  t124 := by kernel_rfl
  a124 := fun w => by kernel_rfl
  z124 := fun w => by kernel_rfl
  v124 := fun w => by kernel_rfl
  t138 := by kernel_rfl
  a138 := fun w => by kernel_rfl
  z138 := fun w => by kernel_rfl
  v138 := fun w => by kernel_rfl
  t139 := by kernel_rfl
  a139 := fun w => by kernel_rfl
  z139 := fun w => by kernel_rfl
  v139 := fun w => by kernel_rfl
  g3 := by kernel_rfl
  g4 := by kernel_rfl
theorem h116_trim : (Tryd.prog.info? (ren_trim.t 116)).map (fun i => (i.zero, i.size)) = some (some (.agg (Array.replicate 256 (.bool false))), 256) := by kernel_rfl
def ren_itoa : Go.Shelf.Ren := { f := fun x => bif Nat.beq x 171 then 55 else bif Nat.beq x 243 then 72 else bif Nat.beq x 246 then 81 else bif Nat.beq x 283 then 91 else bif Nat.beq x 284 then 92 else bif Nat.beq x 285 then 93 else bif Nat.beq x 286 then 94 else bif Nat.beq x 129 then 100 else bif Nat.beq x 317 then 99 else bif Nat.beq x 318 then 101 else bif Nat.beq x 319 then 102 else bif Nat.beq x 320 then 103 else bif Nat.beq x 337 then 107 else bif Nat.beq x 338 then 108 else x, t := fun x => bif Nat.beq x 3 then 3 else bif Nat.beq x 9 then 9 else bif Nat.beq x 2 then 2 else bif Nat.beq x 4 then 4 else bif Nat.beq x 171 then 132 else bif Nat.beq x 0 then 0 else bif Nat.beq x 53 then 114 else bif Nat.beq x 37 then 115 else bif Nat.beq x 5 then 5 else bif Nat.beq x 173 then 135 else bif Nat.beq x 212 then 142 else bif Nat.beq x 51 then 143 else bif Nat.beq x 20 then 20 else bif Nat.beq x 213 then 144 else bif Nat.beq x 46 then 145 else bif Nat.beq x 232 then 156 else bif Nat.beq x 233 then 157 else x, g := fun x => bif Nat.beq x 17 then 0 else bif Nat.beq x 18 then 3 else bif Nat.beq x 19 then 4 else x }
set_option maxRecDepth 100000 in
theorem lay_itoa : Go.Proofs.LaysM.n171 Tryd.prog ren_itoa where
  mixed := by kernel_rfl
  f129 := by kernel_rfl
  f171 := by kernel_rfl
  f243 := by kernel_rfl
  f246 := by kernel_rfl
  f283 := by kernel_rfl
  f284 := by kernel_rfl
  f285 := by kernel_rfl
  f286 := by kernel_rfl
  f317 := by kernel_rfl
  f318 := by kernel_rfl
  f319 := by kernel_rfl
  f320 := by kernel_rfl
  f337 := by kernel_rfl
  f338 := by kernel_rfl
  t0 := by kernel_rfl
  a0 := fun w => by kernel_rfl
  z0 := fun w => by kernel_rfl
  v0 := fun w => by kernel_rfl
  t2 := by kernel_rfl
  a2 := fun w => by kernel_rfl
  z2 := fun w => by kernel_rfl
  v2 := fun w => by kernel_rfl
  t3 := by kernel_rfl
  a3 := fun w => by kernel_rfl
  z3 := fun w => by kernel_rfl
  v3 := fun w => by kernel_rfl
  t4 := by kernel_rfl
  a4 := fun w => by kernel_rfl
  z4 := fun w => by kernel_rfl
  v4 := fun w => by kernel_rfl
  t5 := by kernel_rfl
  a5 := fun w => by kernel_rfl
  z5 := fun w => by kernel_rfl
  v5 := fun w => by kernel_rfl
  t9 := by kernel_rfl
  a9 := fun w => by kernel_rfl
  z9 := fun w => by kernel_rfl
  v9 := fun w => by kernel_rfl
  t20 := by kernel_rfl
  a20 := fun w => by kernel_rfl
  z20 := fun w => by kernel_rfl
  v20 := fun w => by kernel_rfl
  t37 := by kernel_rfl
  a37 := fun w => by kernel_rfl
  z37 := fun w => by kernel_rfl
  v37 := fun w => by kernel_rfl
  t46 := by kernel_rfl
  a46 := fun w => by kernel_rfl
  z46 := fun w => by kernel_rfl
  v46 := fun w => by kernel_rfl
  t51 := by kernel_rfl
  a51 := fun w => by kernel_rfl
  z51 := fun w => by kernel_rfl
  v51 := fun w => by kernel_rfl
  t53 := by kernel_rfl
  a53 := fun w => by kernel_rfl
  z53 := fun w => by kernel_rfl
  v53 := fun w => by kernel_rfl
  t171 := by kernel_rfl
  a171 := fun w => by kernel_rfl
  z171 := fun w => by kernel_rfl
  v171 := fun w => by kernel_rfl
  t173 := by kernel_rfl
  a173 := fun w => by kernel_rfl
  z173 := fun w => by kernel_rfl
  v173 := fun w => by kernel_rfl
  t212 := by kernel_rfl
  a212 := fun w => by kernel_rfl
  z212 := fun w => by kernel_rfl
  v212 := fun w => by kernel_rfl
  t213 := by kernel_rfl
  a213 := fun w => by kernel_rfl
  z213 := fun w => by kernel_rfl
  t232 := by kernel_rfl
  a232 := fun w => by kernel_rfl
  z232 := fun w => by kernel_rfl
  v232 := fun w => by kernel_rfl
  t233 := by kernel_rfl
  a233 := fun w => by kernel_rfl
  z233 := fun w => by kernel_rfl
  v233 := fun w => by kernel_rfl
  g17 := by kernel_rfl
  g18 := by kernel_rfl
  g19 := by kernel_rfl
  i0 := by kernel_rfl
  i2 := by kernel_rfl
  i3 := by kernel_rfl
  i4 := by kernel_rfl
  i5 := by kernel_rfl
  i9 := by kernel_rfl
  i20 := by kernel_rfl
  i37 := by kernel_rfl
  i46 := by kernel_rfl
  i51 := by kernel_rfl
  i53 := by kernel_rfl
  i171 := by kernel_rfl
  i173 := by kernel_rfl
  i212 := by kernel_rfl
  i232 := by kernel_rfl
  i233 := by kernel_rfl
  m17 := by kernel_rfl
  m18 := by kernel_rfl
  m19 := by kernel_rfl


def G : World → (Nat → Nat → Prop) → Prop := Ev.HV 0 .u64 Lib.pow10Tab
theorem G_ok : Ev.FN G := Ev.Jb 0 .u64 Lib.pow10Tab
theorem R_ok : Ev.ObjOk (Ev.JV 0 0 G) := Ev.Ja G_ok


theorem E : Ev.Pr.I1 (Ev.JV 0 0 G) where
  obj := ⟨R_ok, fun t k x h => by have h' : (none : Option (Nat × Ev.D)) = some (k, x) := h; cases h'⟩
  strconv_Itoa_ok := fun n x0 r h => Ev.di.Jd (Ev.G7 R_ok lay_itoa (fun w fr h => Ev.Je (by kernel_rfl) h)) (Ev.Im h)
  strings_Trim_ok := fun n x0 x1 r h => Ev.di.Jd (Ev.GQ R_ok lay_trim h116_trim) (by unfold Ev.iU at h; unfold Ev.wh; split at h <;> simp_all)
theorem cells3 : Tryd.prog.cellsOf 3 = 1 := by kernel_rfl
theorem open_K_Sheet : Ev.o7 Tryd.prog 37 Ev.Pr.jM (fun _ => True) :=
  Ev.o7.struct (tot := 4) (β := (List Int) × (List Int) × (List Int) × (List Int) × Unit) (enc2 := fun y => ((Ev.KC (Ev.D.int .i64)) y.1).cells ++ (((Ev.KC (Ev.D.int .i64)) y.2.1).cells ++ (((Ev.KC (Ev.D.int .i64)) y.2.2.1).cells ++ (((Ev.KC (Ev.D.int .i64)) y.2.2.2.1).cells ++ ([] : List Ev.D))))) Tryd.underlying37 (by kernel_rfl) (Ev.yO.cons (α := (List Int)) (enc := (Ev.KC (Ev.D.int .i64))) (enc2 := fun (y : (List Int) × (List Int) × (List Int) × Unit) => ((Ev.KC (Ev.D.int .i64)) y.1).cells ++ (((Ev.KC (Ev.D.int .i64)) y.2.1).cells ++ (((Ev.KC (Ev.D.int .i64)) y.2.2.1).cells ++ (([] : List Ev.D))))) (sz := 1) (tot := 3) rfl (by kernel_rfl) (Ev.o7.slice Tryd.underlying32 (Ev.o7.int Tryd.underlying3) (fun _ => cells3.symm) (by rw [cells3]; decide)) (Ev.yO.cons (α := (List Int)) (enc := (Ev.KC (Ev.D.int .i64))) (enc2 := fun (y : (List Int) × (List Int) × Unit) => ((Ev.KC (Ev.D.int .i64)) y.1).cells ++ (((Ev.KC (Ev.D.int .i64)) y.2.1).cells ++ (([] : List Ev.D)))) (sz := 1) (tot := 2) rfl (by kernel_rfl) (Ev.o7.slice Tryd.underlying32 (Ev.o7.int Tryd.underlying3) (fun _ => cells3.symm) (by rw [cells3]; decide)) (Ev.yO.cons (α := (List Int)) (enc := (Ev.KC (Ev.D.int .i64))) (enc2 := fun (y : (List Int) × Unit) => ((Ev.KC (Ev.D.int .i64)) y.1).cells ++ (([] : List Ev.D))) (sz := 1) (tot := 1) rfl (by kernel_rfl) (Ev.o7.slice Tryd.underlying32 (Ev.o7.int Tryd.underlying3) (fun _ => cells3.symm) (by rw [cells3]; decide)) (Ev.yO.cons (α := (List Int)) (enc := (Ev.KC (Ev.D.int .i64))) (enc2 := fun (y : Unit) => ([] : List Ev.D)) (sz := 1) (tot := 0) rfl (by kernel_rfl) (Ev.o7.slice Tryd.underlying32 (Ev.o7.int Tryd.underlying3) (fun _ => cells3.symm) (by rw [cells3]; decide)) Ev.yO.nil)))) (fun y => ⟨y.1, y.2.1, y.2.2.1, y.2.2.2.1⟩) (fun y => rfl) (fun _ _ => trivial)
theorem open_Pair : Ev.o7 Tryd.prog 104 Ev.Pr.aJ (fun _ => True) :=
  Ev.o7.struct (tot := 2) (β := Ev.Str × Ev.Str × Unit) (enc2 := fun y => (Ev.D.str y.1).cells ++ ((Ev.D.str y.2.1).cells ++ ([] : List Ev.D))) Tryd.underlying104 (by kernel_rfl) (Ev.yO.cons (α := Ev.Str) (enc := Ev.D.str) (enc2 := fun (y : Ev.Str × Unit) => (Ev.D.str y.1).cells ++ (([] : List Ev.D))) (sz := 1) (tot := 1) rfl (by kernel_rfl) (Ev.o7.str Tryd.underlying9) (Ev.yO.cons (α := Ev.Str) (enc := Ev.D.str) (enc2 := fun (y : Unit) => ([] : List Ev.D)) (sz := 1) (tot := 0) rfl (by kernel_rfl) (Ev.o7.str Tryd.underlying9) Ev.yO.nil)) (fun y => ⟨y.1, y.2.1⟩) (fun y => rfl) (fun _ _ => trivial)
theorem cells104 : Tryd.prog.cellsOf 104 = 2 := by kernel_rfl
theorem spec (x0 : Ev.Pr.fw) (x1 : (List Int)) (x2 : (List Ev.Pr.dQ)) (x3 : Int) (w0 : True) (w1 : (x1.length ≤ maxLen ∧ ∀ y ∈ x1, (Lit.int .i64 y).wf = true)) (w2 : (x2.length ≤ maxLen ∧ ∀ y ∈ x2, True)) (w3 : (Lit.int .i64 x3).wf = true) : Ev.di (Ev.JV 0 0 G) Tryd.prog 5 [Ev.Pr.jM x0, Ev.D.sl (x1.map (Ev.D.int .i64)) false, Ev.D.sl (x2.map Ev.Pr.aJ) false, Ev.D.int .i64 x3] (.d (.bool true)) :=
  Ev.Pr.xw E 100000 x0 x1 x2 x3 true (Ev.Pr.Gc x0 x1 x2 x3 w0 w1 w2 w3)
theorem walk (w : World) (hG : G w (fun _ _ => False)) (x0 : Ev.Pr.fw) (x1 : (List Int)) (x2 : (List Ev.Pr.dQ)) (x3 : Int) (w0 : True) (w1 : (x1.length ≤ maxLen ∧ ∀ y ∈ x1, (Lit.int .i64 y).wf = true)) (w2 : (x2.length ≤ maxLen ∧ ∀ y ∈ x2, True)) (w3 : (Lit.int .i64 x3).wf = true) (v0 v1 v2 v3 : Value) (r0 : Ev.bH w Ev.Ea (Ev.Pr.jM x0) v0) (r1 : Ev.bH w Ev.Ea (Ev.D.sl (x1.map (Ev.D.int .i64)) false) v1) (r2 : Ev.bH w Ev.Ea (Ev.D.sl (x2.map Ev.Pr.aJ) false) v2) (r3 : Ev.bH w Ev.Ea (Ev.D.int .i64 x3) v3) : Calls Tryd.prog 5 #[v0, v1, v2, v3] w fun e w' => e = .returned (.bool true) ∧ Below w.heap.size w w' :=
  (Ev.Ga R_ok (spec x0 x1 x2 x3 w0 w1 w2 w3) w hG [v0, v1, v2, v3] rfl (fun i y u hy hu => by
    match i, hy, hu with
    | 0, hy, hu => cases hy; cases hu; exact r0
    | 1, hy, hu => cases hy; cases hu; exact r1
    | 2, hy, hu => cases hy; cases hu; exact r2
    | 3, hy, hu => cases hy; cases hu; exact r3
    | i + 4, hy, hu => cases hy)).mono fun e w' ⟨u, he, hu, hb⟩ => by
    have := hu.val rfl
    cases this
    exact ⟨he, hb⟩

theorem tab_of {W : World} (h : laidMet Tryd.prog Rows.pageTellsRow.laid W) : Ev.HV 0 .u64 Lib.pow10Tab W (fun _ _ => False) :=
  Ev.I9 (by kernel_rfl) (Lib.tabIs_of_head (g := 0) (by kernel_rfl) (by kernel_rfl) Tryd.underlying142 Tryd.underlying114 (by kernel_rfl) (by kernel_rfl) (show laidMet Tryd.prog (("internal/strconv.uint64pow10", Lib.tabData .u64 Lib.pow10Tab) :: _) W from h.tail.tail))


theorem laidOut : laidOutB Tryd.prog = true := by kernel_rfl
/-- The witness: the settled world, the listed variables holding what their initialisers lay. -/
noncomputable def laidWorld (os : Os) : World :=
  let w0 := World.holding Tryd.prog os ⟨#[], #[.agg #[.slice none 0 0, .slice none 0 0, .slice none 0 0, .slice none 0 0], .slice none 0 0, .slice none 0 0, .int .i64 0], []⟩
  let put (h : Array Obj) (g : Nat) (cs : Array Value) : Array Obj := h.modify g fun
    | .cells _ t frozen => .cells cs t frozen
    | o => o
  let h1 := put w0.heap 3 (([0, 1, 28, 2, 29, 14, 24, 3, 30, 22, 20, 15, 25, 17, 4, 8, 31, 27, 13, 23, 21, 19, 16, 7, 26, 12, 18, 6, 11, 5, 10, 9] : List Int).map fun z => Value.int .u8 z).toArray
  let h2 := put h1 4 (([0, 1, 56, 2, 57, 49, 28, 3, 61, 58, 42, 50, 38, 29, 17, 4, 62, 47, 59, 36, 45, 43, 51, 22, 53, 39, 33, 30, 24, 18, 12, 5, 63, 55, 48, 27, 60, 41, 37, 16, 46, 35, 44, 21, 52, 32, 23, 11, 54, 26, 40, 15, 34, 20, 31, 10, 25, 14, 19, 9, 13, 8, 7, 6] : List Int).map fun z => Value.int .u8 z).toArray
  let h3 := put h2 0 (([1, 10, 100, 1000, 10000, 100000, 1000000, 10000000, 100000000, 1000000000, 10000000000, 100000000000, 1000000000000, 10000000000000, 100000000000000, 1000000000000000, 10000000000000000, 100000000000000000, 1000000000000000000, 10000000000000000000] : List Int).map fun z => Value.int .u64 z).toArray
  let h4 := put h3 2 ((List.range 16).flatMap fun i => [Value.int .u8 (Lib.accLo i), Value.int .u8 (Lib.accHi i)]).toArray
  let h5 := put h4 1 (Lib.firstTab.map fun z => Value.int .u8 z).toArray
  { w0 with heap := h5 }
theorem laid_met (os : Os) : laidMet Tryd.prog Rows.pageTellsRow.laid ((laidWorld os).forCall (fun _ _ => 0) ⟨#[], #[.agg #[.slice none 0 0, .slice none 0 0, .slice none 0 0, .slice none 0 0], .slice none 0 0, .slice none 0 0, .int .i64 0], []⟩).memory :=
  (LaidIn.of_run (l := Rows.pageTellsRow.laid) [3, 4, 0, 2, 1] 8 (by kernel_rfl) (by kernel_rfl) (by kernel_rfl) (by kernel_rfl)).met
theorem reads (os : Os) {H : Type} (enc : TypeId × Value → H) : ∃ places, DataW.whole enc Tryd.prog ((laidWorld os).forCall (fun _ _ => 0) ⟨#[], #[.agg #[.slice none 0 0, .slice none 0 0, .slice none 0 0, .slice none 0 0], .slice none 0 0, .slice none 0 0, .int .i64 0], []⟩).memory Tryd.f5.params.toList Rows.pageTellsSpec.vars false (#[.agg #[.slice none 0 0, .slice none 0 0, .slice none 0 0, .slice none 0 0], .slice none 0 0, .slice none 0 0, .int .i64 0] : Array Value).toList 8 = some ([.agg [.nil, .nil, .nil, .nil], .nil, .nil, .lit (.int .i64 0)], [], places) :=
  ⟨[], by kernel_rfl⟩

set_option maxRecDepth 100000 in
theorem lifted (os : Os) (started : os.Started) (H : Type) (enc : TypeId × Value → H) (F : Stop.Interp) :
    ReturnsInHanded {} Tryd.checked os 5 .any ((OpenSpec.ofChange Rows.pageTellsSpec).preRow enc Tryd.prog Tryd.f5 Rows.pageTellsRow.domain false Rows.pageTellsRow.laid) (((OpenSpec.ofChange Rows.pageTellsSpec).at F).post enc Tryd.prog Tryd.f5 false true false false) := by
  obtain ⟨places, hx⟩ := reads os enc
  refine returnsInHanded_of_row (C := Tryd.checked) (s := OpenSpec.ofChange Rows.pageTellsSpec) own started (by kernel_rfl) Tryd.func5
    (witness_row_at (enc := enc) (C := Tryd.checked) false (laidWorld os) #[.agg #[.slice none 0 0, .slice none 0 0, .slice none 0 0, .slice none 0 0], .slice none 0 0, .slice none 0 0, .int .i64 0] rfl (by kernel_rfl) (by kernel_rfl) (by kernel_rfl)
      (OpenSpec.preRow_of_cond 8 hx (by kernel_rfl) (fun k hk => by cases hk) (by kernel_rfl) (laid_met os))) ?_
  intro W base args ds gs before hval hW _ _ _ hL hsh _
  have hW' := hW
  obtain ⟨p, q, hA0, hV, rfl, hfz, hnd⟩ := hW
  have hlt : ∀ x ∈ p, x.block < W.heap.size := fun x hx => by simpa using hW'.lt x (by simp [hx])
  have hA : DataW.TrodAll enc Tryd.prog W 0 (fun _ => true) true Tryd.f5.params.toList args.toList ds p := hA0
  rw [Tryd.params5] at hA hval
  obtain ⟨v0, v1, v2, v3, d0, d1, d2, d3, p0, p1, p2, p3, rfl, rfl, rfl, h0, h1, h2, h3⟩ := trodAll_four hA
  obtain ⟨x0, w0, r0⟩ := Ev.Hl Tryd.underlying37 open_K_Sheet Ev.Pr.fw.agg (hval 0 _ _ rfl rfl) h0
  obtain ⟨x1, w1, r1⟩ := Ev.I6 (b0 := 0) (Ev.o7.slice Tryd.underlying32 (Ev.o7.int Tryd.underlying3) (fun _ => cells3.symm) (by rw [cells3]; decide)) (fun _ => rfl) (by obtain ⟨q, ln, cp, rfl⟩ := okWide_slice Tryd.underlying32 (hval 1 _ _ rfl rfl); rfl) h1
  obtain ⟨x2, w2, r2⟩ := Ev.I6 (b0 := 0) (Ev.o7.slice Tryd.underlying38 open_Pair (fun x => (Ev.Pr.dQ.len x).trans cells104.symm) (by rw [cells104]; decide)) (fun _ => rfl) (by obtain ⟨q, ln, cp, rfl⟩ := okWide_slice Tryd.underlying38 (hval 2 _ _ rfl rfl); rfl) h2
  obtain ⟨x3, w3, r3⟩ := Ev.I6 (b0 := 0) (Ev.o7.int Tryd.underlying3) (fun _ => rfl) (by obtain ⟨q, rfl⟩ := okWide_int Tryd.underlying3 (hval 3 _ _ rfl rfl); rfl) h3
  obtain ⟨rfl, rfl⟩ := trodVars_none hV
  refine (walk W (tab_of hL) x0 x1 x2 x3 w0 w1 w2 w3 v0 v1 v2 v3 r0 r1 r2 r3).mono fun e W' ⟨he, hb⟩ => ?_
  subst he
  exact ⟨_, rfl, _, _, _, _, _, _, hW', trodAll_mk1 (shut_bool (by kernel_rfl) _), trodAll_mk4 (Below.trod laidOut (by kernel_rfl) (of_decide_eq_true (by kernel_rfl)) h0 hb (fun x hx => hlt x (by simp [hx]))) (Below.trod laidOut (by kernel_rfl) (of_decide_eq_true (by kernel_rfl)) h1 hb (fun x hx => hlt x (by simp [hx]))) (Below.trod laidOut (by kernel_rfl) (of_decide_eq_true (by kernel_rfl)) h2 hb (fun x hx => hlt x (by simp [hx]))) (Below.trod laidOut (by kernel_rfl) (of_decide_eq_true (by kernel_rfl)) h3 hb (fun x hx => hlt x (by simp [hx]))), rfl, hb.frame _, fun h => by cases h⟩

theorem said : Rows.PageTellsSaid :=
  OpenClaim.holds_of_cond 5 Tryd.f5 rfl rfl rfl rfl rfl rfl rfl ⟨rfl, rfl, rfl, rfl, rfl⟩ rfl rfl rfl rfl rfl (by kernel_rfl) Tryd.func5 (by kernel_rfl)
    (of_decide_eq_true (by kernel_rfl)) (by unfold Func.isWrapper; first | (rw [if_pos (by decide +kernel)]; kernel_rfl) | (rw [if_neg (by decide +kernel)]; exact ⟨rfl, rfl⟩))
    (fun os started H enc _ F => by rw [OpenClaim.pre_eq_preRow]; exact lifted os started H enc F)

theorem plain (f : FuncId) (fn : Func) (hf : Tryd.pinned.checked.prog.funcNamed "portico/porticolaw16.PageTells" = some f) (hfn : Tryd.pinned.checked.prog.funcs[f]? = some fn) :
    true = Tryd.pinned.checked.prog.looks [] ∧ ∀ (j : Nat) t, fn.params[j]? = some t → Tryd.pinned.checked.prog.wantsStandIn t = false := by
  obtain rfl : f = 5 := Option.some.inj ((show Tryd.prog.funcNamed "portico/porticolaw16.PageTells" = some 5 by kernel_rfl).symm.trans hf) |>.symm
  obtain rfl : fn = Tryd.f5 := (Option.some.inj (Tryd.func5.symm.trans hfn)).symm
  refine ⟨by kernel_rfl, fun j t ht => ?_⟩
  rw [Tryd.params5] at ht
  match j with
  | 0 =>
    obtain rfl := Option.some.inj ht
    exact (show Tryd.prog.wantsStandIn 37 = false by kernel_rfl)
  | 1 =>
    obtain rfl := Option.some.inj ht
    exact (show Tryd.prog.wantsStandIn 32 = false by kernel_rfl)
  | 2 =>
    obtain rfl := Option.some.inj ht
    exact (show Tryd.prog.wantsStandIn 38 = false by kernel_rfl)
  | 3 =>
    obtain rfl := Option.some.inj ht
    exact (show Tryd.prog.wantsStandIn 3 = false by kernel_rfl)
  | j + 4 => cases ht

theorem card : Rows.PageTellsCardSaid :=
  Claim7.holds_tied_plain_at .later [] _ _ _ _ said (fun _ h => by cases h) (by kernel_rfl) (fun _ h => by cases h) pageTells_row_tie rfl ⟨rfl, rfl⟩ (by kernel_rfl) rfl plain (by kernel_rfl)
end PageTells
end Go.Proofs.YtpbfidcmnkmkiaaDoor

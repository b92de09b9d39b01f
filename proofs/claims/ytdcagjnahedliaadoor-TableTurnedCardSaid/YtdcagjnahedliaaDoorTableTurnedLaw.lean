/- TableTurned: the law answers true, whatever is handed in. It is shown in two parts: the walk (the text that ends in Walk: the functions of the program as typed Lean functions, each proved against the given model), and the pure law about these (the texts that bear Pure). Its closed sentence is one of these functions, and carried out by the kernel; some functions of Go's library are answered by the kit's contracts. The card ties the listed tables to the program's text; it speaks of a pruned copy of the project (the packages that the seat's roots load). No conditions. -/
import Derived.Test.YtdcagjnahedliaaDoorPartF
import Derived.Test.YtdcagjnahedliaaDoorRows
import Derived.Test.YtdcagjnahedliaaDoorCards
import Derived.Test.YtdcagjnahedliaaDoorTie
import Derived.Test.YtdcagjnahedliaaDoorCards
import Derived.Test.YtdcagjnahedliaaDoorTie
import Derived.WalkKit
import Derived.ProofKit
import Derived.OpenShut
import Derived.Carry
import Derived.Deep.DeepHandedRow
import Derived.Lib.LaidIn
import Derived.Lib.LaidU8T
import Derived.Shelf.Vars
import Derived.Deep.DeepHandedRow
import Derived.Lib.LaidIn
import Derived.Lib.LaidU8T
import Derived.Shelf.Vars
namespace Go.Proofs.YtdcagjnahedliaaDoor
namespace TableTurned
set_option linter.unusedVariables false
open Go.ChangeShapes Go.WideShapes Go.ChangeAt Go.RowKit

theorem own : ownKnob Tryd.prog.godebug = none := by kernel_rfl

def ren_trim : Go.Shelf.Ren := { f := fun x => bif Nat.beq x 160 then 40 else bif Nat.beq x 232 then 61 else bif Nat.beq x 231 then 60 else bif Nat.beq x 227 then 62 else bif Nat.beq x 234 then 64 else bif Nat.beq x 233 then 63 else bif Nat.beq x 236 then 66 else bif Nat.beq x 235 then 65 else bif Nat.beq x 228 then 71 else bif Nat.beq x 271 then 74 else bif Nat.beq x 151 then 73 else bif Nat.beq x 197 then 72 else bif Nat.beq x 120 then 77 else bif Nat.beq x 152 then 76 else bif Nat.beq x 260 then 75 else bif Nat.beq x 137 then 78 else bif Nat.beq x 119 then 79 else bif Nat.beq x 224 then 80 else bif Nat.beq x 225 then 81 else bif Nat.beq x 217 then 82 else bif Nat.beq x 266 then 83 else x, t := fun x => bif Nat.beq x 9 then 9 else bif Nat.beq x 4 then 4 else bif Nat.beq x 3 then 3 else bif Nat.beq x 5 then 5 else bif Nat.beq x 117 then 113 else bif Nat.beq x 116 then 112 else bif Nat.beq x 0 then 0 else bif Nat.beq x 124 then 116 else bif Nat.beq x 21 then 21 else bif Nat.beq x 105 then 121 else bif Nat.beq x 46 then 126 else bif Nat.beq x 119 then 125 else bif Nat.beq x 139 then 129 else bif Nat.beq x 138 then 128 else bif Nat.beq x 20 then 20 else bif Nat.beq x 37 then 83 else x, g := fun x => bif Nat.beq x 3 then 0 else bif Nat.beq x 4 then 1 else x }
set_option maxRecDepth 100000 in
theorem lay_trim : Go.Proofs.Lays.n160 Tryd.prog ren_trim where
  mixed := by kernel_rfl
  f119 := by kernel_rfl
  f120 := by kernel_rfl
  f137 := by kernel_rfl
  f151 := by kernel_rfl
  f152 := by kernel_rfl
  f160 := by kernel_rfl
  f197 := by kernel_rfl
  f217 := by kernel_rfl
  f224 := by kernel_rfl
  f225 := by kernel_rfl
  f227 := by kernel_rfl
  f228 := by kernel_rfl
  f231 := by kernel_rfl
  f232 := by kernel_rfl
  f233 := by kernel_rfl
  f234 := by kernel_rfl
  f235 := by kernel_rfl
  f236 := by kernel_rfl
  f260 := by kernel_rfl
  f266 := by kernel_rfl
  f271 := by kernel_rfl
  t0 := by kernel_rfl
  a0 := fun w => by kernel_rfl
  z0 := fun w => by kernel_rfl
  v0 := fun w => by kernel_rfl
  t3 := by kernel_rfl
  a3 := fun w => by kernel_rfl
  z3 := fun w => by kernel_rfl
  v3 := fun w => by kernel_rfl
  t4 := by kernel_rfl
  a4 := fun w => by kernel_rfl
  z4 := fun w => by kernel_rfl
  v4 := fun w => by kernel_rfl
  t5 := by kernel_rfl
  a5 := fun w => by kernel_rfl
  z5 := fun w => by kernel_rfl
  v5 := fun w => by kernel_rfl
  t9 := by kernel_rfl
  a9 := fun w => by kernel_rfl
  z9 := fun w => by kernel_rfl
  v9 := fun w => by kernel_rfl
  t21 := by kernel_rfl
  a21 := fun w => by kernel_rfl
  z21 := fun w => by kernel_rfl
  v21 := fun w => by kernel_rfl
  t46 := by kernel_rfl
  a46 := fun w => by kernel_rfl
  z46 := fun w => by kernel_rfl
  v46 := fun w => by kernel_rfl
  t105 := by kernel_rfl
  a105 := fun w => by kernel_rfl
  z105 := fun w => by kernel_rfl
  v105 := fun w => by kernel_rfl
  t116 := by kernel_rfl
  a116 := fun w => by kernel_rfl
  z116 := fun w => by kernel_rfl
  t117 := by kernel_rfl
  a117 := fun w => by kernel_rfl
  z117 := fun w => by kernel_rfl
  v117 := fun w => by kernel_rfl
  t119 := by kernel_rfl
  a119 := fun w => by kernel_rfl
  z119 := fun w => by kernel_rfl
  t124 := by kernel_rfl
  a124 := fun w => by kernel_rfl
  z124 := fun w => by kernel_rfl
  v124 := fun w => by kernel_rfl
  t138 := by kernel_rfl
  a138 := fun w => by kernel_rfl
  z138 := fun w => by kernel_rfl
  v138 := fun w => by kernel_rfl
  t139 := by kernel_rfl
  a139 := fun w => by kernel_rfl
  z139 := fun w => by kernel_rfl
  v139 := fun w => by kernel_rfl
  g3 := by kernel_rfl
  g4 := by kernel_rfl
theorem h116_trim : (Tryd.prog.info? (ren_trim.t 116)).map (fun i => (i.zero, i.size)) = some (some (.agg (Array.replicate 256 (.bool false))), 256) := by kernel_rfl


def G : World → (Nat → Nat → Prop) → Prop := Ev.Qv
theorem G_ok : Ev.IX G := Ev.PG
theorem R_ok : Ev.ObjOk (Ev.Qc 0 0 G) := Ev.Og G_ok


theorem E : Ev.Pr.LY (Ev.Qc 0 0 G) where
  obj := ⟨R_ok, fun t k x h => by have h' : (none : Option (Nat × Ev.D)) = some (k, x) := h; cases h'⟩
  strings_Trim_ok := fun n x0 x1 r h => Ev.bN.Oc (Ev.LC R_ok lay_trim h116_trim) (by unfold Ev.lN at h; unfold Ev.Ak; split at h <;> simp_all)
theorem cells3 : Tryd.prog.cellsOf 3 = 1 := by kernel_rfl
theorem open_K_Sheet : Ev.qL Tryd.prog 56 Ev.Pr.ko (fun _ => True) :=
  Ev.qL.struct (tot := 4) (β := (List Int) × (List Int) × (List Int) × (List Int) × Unit) (enc2 := fun y => ((Ev.O0 (Ev.D.int .i64)) y.1).cells ++ (((Ev.O0 (Ev.D.int .i64)) y.2.1).cells ++ (((Ev.O0 (Ev.D.int .i64)) y.2.2.1).cells ++ (((Ev.O0 (Ev.D.int .i64)) y.2.2.2.1).cells ++ ([] : List Ev.D))))) Tryd.underlying56 (by kernel_rfl) (Ev.Cf.cons (α := (List Int)) (enc := (Ev.O0 (Ev.D.int .i64))) (enc2 := fun (y : (List Int) × (List Int) × (List Int) × Unit) => ((Ev.O0 (Ev.D.int .i64)) y.1).cells ++ (((Ev.O0 (Ev.D.int .i64)) y.2.1).cells ++ (((Ev.O0 (Ev.D.int .i64)) y.2.2.1).cells ++ (([] : List Ev.D))))) (sz := 1) (tot := 3) rfl (by kernel_rfl) (Ev.qL.slice Tryd.underlying22 (Ev.qL.int Tryd.underlying3) (fun _ => cells3.symm) (by rw [cells3]; decide)) (Ev.Cf.cons (α := (List Int)) (enc := (Ev.O0 (Ev.D.int .i64))) (enc2 := fun (y : (List Int) × (List Int) × Unit) => ((Ev.O0 (Ev.D.int .i64)) y.1).cells ++ (((Ev.O0 (Ev.D.int .i64)) y.2.1).cells ++ (([] : List Ev.D)))) (sz := 1) (tot := 2) rfl (by kernel_rfl) (Ev.qL.slice Tryd.underlying22 (Ev.qL.int Tryd.underlying3) (fun _ => cells3.symm) (by rw [cells3]; decide)) (Ev.Cf.cons (α := (List Int)) (enc := (Ev.O0 (Ev.D.int .i64))) (enc2 := fun (y : (List Int) × Unit) => ((Ev.O0 (Ev.D.int .i64)) y.1).cells ++ (([] : List Ev.D))) (sz := 1) (tot := 1) rfl (by kernel_rfl) (Ev.qL.slice Tryd.underlying22 (Ev.qL.int Tryd.underlying3) (fun _ => cells3.symm) (by rw [cells3]; decide)) (Ev.Cf.cons (α := (List Int)) (enc := (Ev.O0 (Ev.D.int .i64))) (enc2 := fun (y : Unit) => ([] : List Ev.D)) (sz := 1) (tot := 0) rfl (by kernel_rfl) (Ev.qL.slice Tryd.underlying22 (Ev.qL.int Tryd.underlying3) (fun _ => cells3.symm) (by rw [cells3]; decide)) Ev.Cf.nil)))) (fun y => ⟨y.1, y.2.1, y.2.2.1, y.2.2.2.1⟩) (fun y => rfl) (fun _ _ => trivial)
theorem open_K_Part : Ev.qL Tryd.prog 58 Ev.Pr.dH (fun _ => True) :=
  Ev.qL.struct (tot := 7) (β := Ev.Pr.cZ × (List Int) × (List Int) × Bool × Unit) (enc2 := fun y => (Ev.Pr.ko y.1).cells ++ (((Ev.O0 (Ev.D.int .i64)) y.2.1).cells ++ (((Ev.O0 (Ev.D.int .i64)) y.2.2.1).cells ++ ((Ev.D.bool y.2.2.2.1).cells ++ ([] : List Ev.D))))) Tryd.underlying58 (by kernel_rfl) (Ev.Cf.cons (α := Ev.Pr.cZ) (enc := Ev.Pr.ko) (enc2 := fun (y : (List Int) × (List Int) × Bool × Unit) => ((Ev.O0 (Ev.D.int .i64)) y.1).cells ++ (((Ev.O0 (Ev.D.int .i64)) y.2.1).cells ++ ((Ev.D.bool y.2.2.1).cells ++ (([] : List Ev.D))))) (sz := 4) (tot := 3) rfl (by kernel_rfl) open_K_Sheet (Ev.Cf.cons (α := (List Int)) (enc := (Ev.O0 (Ev.D.int .i64))) (enc2 := fun (y : (List Int) × Bool × Unit) => ((Ev.O0 (Ev.D.int .i64)) y.1).cells ++ ((Ev.D.bool y.2.1).cells ++ (([] : List Ev.D)))) (sz := 1) (tot := 2) rfl (by kernel_rfl) (Ev.qL.slice Tryd.underlying22 (Ev.qL.int Tryd.underlying3) (fun _ => cells3.symm) (by rw [cells3]; decide)) (Ev.Cf.cons (α := (List Int)) (enc := (Ev.O0 (Ev.D.int .i64))) (enc2 := fun (y : Bool × Unit) => (Ev.D.bool y.1).cells ++ (([] : List Ev.D))) (sz := 1) (tot := 1) rfl (by kernel_rfl) (Ev.qL.slice Tryd.underlying22 (Ev.qL.int Tryd.underlying3) (fun _ => cells3.symm) (by rw [cells3]; decide)) (Ev.Cf.cons (α := Bool) (enc := Ev.D.bool) (enc2 := fun (y : Unit) => ([] : List Ev.D)) (sz := 1) (tot := 0) rfl (by kernel_rfl) (Ev.qL.bool Tryd.underlying4) Ev.Cf.nil)))) (fun y => ⟨y.1, y.2.1, y.2.2.1, y.2.2.2.1⟩) (fun y => rfl) (fun _ _ => trivial)
theorem cells58 : Tryd.prog.cellsOf 58 = 7 := by kernel_rfl
theorem open_K_Table : Ev.qL Tryd.prog 24 Ev.Pr.lg (fun _ => True) :=
  Ev.qL.struct (tot := 7) (β := (List Int) × (List Int) × (List Int) × (List Int) × (List Int) × (List Int) × (List Int) × Unit) (enc2 := fun y => ((Ev.O0 (Ev.D.int .i64)) y.1).cells ++ (((Ev.O0 (Ev.D.int .i64)) y.2.1).cells ++ (((Ev.O0 (Ev.D.int .i64)) y.2.2.1).cells ++ (((Ev.O0 (Ev.D.int .i64)) y.2.2.2.1).cells ++ (((Ev.O0 (Ev.D.int .i64)) y.2.2.2.2.1).cells ++ (((Ev.O0 (Ev.D.int .i64)) y.2.2.2.2.2.1).cells ++ (((Ev.O0 (Ev.D.int .i64)) y.2.2.2.2.2.2.1).cells ++ ([] : List Ev.D)))))))) Tryd.underlying24 (by kernel_rfl) (Ev.Cf.cons (α := (List Int)) (enc := (Ev.O0 (Ev.D.int .i64))) (enc2 := fun (y : (List Int) × (List Int) × (List Int) × (List Int) × (List Int) × (List Int) × Unit) => ((Ev.O0 (Ev.D.int .i64)) y.1).cells ++ (((Ev.O0 (Ev.D.int .i64)) y.2.1).cells ++ (((Ev.O0 (Ev.D.int .i64)) y.2.2.1).cells ++ (((Ev.O0 (Ev.D.int .i64)) y.2.2.2.1).cells ++ (((Ev.O0 (Ev.D.int .i64)) y.2.2.2.2.1).cells ++ (((Ev.O0 (Ev.D.int .i64)) y.2.2.2.2.2.1).cells ++ (([] : List Ev.D)))))))) (sz := 1) (tot := 6) rfl (by kernel_rfl) (Ev.qL.slice Tryd.underlying22 (Ev.qL.int Tryd.underlying3) (fun _ => cells3.symm) (by rw [cells3]; decide)) (Ev.Cf.cons (α := (List Int)) (enc := (Ev.O0 (Ev.D.int .i64))) (enc2 := fun (y : (List Int) × (List Int) × (List Int) × (List Int) × (List Int) × Unit) => ((Ev.O0 (Ev.D.int .i64)) y.1).cells ++ (((Ev.O0 (Ev.D.int .i64)) y.2.1).cells ++ (((Ev.O0 (Ev.D.int .i64)) y.2.2.1).cells ++ (((Ev.O0 (Ev.D.int .i64)) y.2.2.2.1).cells ++ (((Ev.O0 (Ev.D.int .i64)) y.2.2.2.2.1).cells ++ (([] : List Ev.D))))))) (sz := 1) (tot := 5) rfl (by kernel_rfl) (Ev.qL.slice Tryd.underlying22 (Ev.qL.int Tryd.underlying3) (fun _ => cells3.symm) (by rw [cells3]; decide)) (Ev.Cf.cons (α := (List Int)) (enc := (Ev.O0 (Ev.D.int .i64))) (enc2 := fun (y : (List Int) × (List Int) × (List Int) × (List Int) × Unit) => ((Ev.O0 (Ev.D.int .i64)) y.1).cells ++ (((Ev.O0 (Ev.D.int .i64)) y.2.1).cells ++ (((Ev.O0 (Ev.D.int .i64)) y.2.2.1).cells ++ (((Ev.O0 (Ev.D.int .i64)) y.2.2.2.1).cells ++ (([] : List Ev.D)))))) (sz := 1) (tot := 4) rfl (by kernel_rfl) (Ev.qL.slice Tryd.underlying22 (Ev.qL.int Tryd.underlying3) (fun _ => cells3.symm) (by rw [cells3]; decide)) (Ev.Cf.cons (α := (List Int)) (enc := (Ev.O0 (Ev.D.int .i64))) (enc2 := fun (y : (List Int) × (List Int) × (List Int) × Unit) => ((Ev.O0 (Ev.D.int .i64)) y.1).cells ++ (((Ev.O0 (Ev.D.int .i64)) y.2.1).cells ++ (((Ev.O0 (Ev.D.int .i64)) y.2.2.1).cells ++ (([] : List Ev.D))))) (sz := 1) (tot := 3) rfl (by kernel_rfl) (Ev.qL.slice Tryd.underlying22 (Ev.qL.int Tryd.underlying3) (fun _ => cells3.symm) (by rw [cells3]; decide)) (Ev.Cf.cons (α := (List Int)) (enc := (Ev.O0 (Ev.D.int .i64))) (enc2 := fun (y : (List Int) × (List Int) × Unit) => ((Ev.O0 (Ev.D.int .i64)) y.1).cells ++ (((Ev.O0 (Ev.D.int .i64)) y.2.1).cells ++ (([] : List Ev.D)))) (sz := 1) (tot := 2) rfl (by kernel_rfl) (Ev.qL.slice Tryd.underlying22 (Ev.qL.int Tryd.underlying3) (fun _ => cells3.symm) (by rw [cells3]; decide)) (Ev.Cf.cons (α := (List Int)) (enc := (Ev.O0 (Ev.D.int .i64))) (enc2 := fun (y : (List Int) × Unit) => ((Ev.O0 (Ev.D.int .i64)) y.1).cells ++ (([] : List Ev.D))) (sz := 1) (tot := 1) rfl (by kernel_rfl) (Ev.qL.slice Tryd.underlying22 (Ev.qL.int Tryd.underlying3) (fun _ => cells3.symm) (by rw [cells3]; decide)) (Ev.Cf.cons (α := (List Int)) (enc := (Ev.O0 (Ev.D.int .i64))) (enc2 := fun (y : Unit) => ([] : List Ev.D)) (sz := 1) (tot := 0) rfl (by kernel_rfl) (Ev.qL.slice Tryd.underlying22 (Ev.qL.int Tryd.underlying3) (fun _ => cells3.symm) (by rw [cells3]; decide)) Ev.Cf.nil))))))) (fun y => ⟨y.1, y.2.1, y.2.2.1, y.2.2.2.1, y.2.2.2.2.1, y.2.2.2.2.2.1, y.2.2.2.2.2.2.1⟩) (fun y => rfl) (fun _ _ => trivial)
theorem open_K_App : Ev.qL Tryd.prog 27 Ev.Pr.oC (fun _ => True) :=
  Ev.qL.struct (tot := 9) (β := Ev.Pr.gQ × (List Ev.Pr.eX) × Int × Unit) (enc2 := fun y => (Ev.Pr.lg y.1).cells ++ (((Ev.O0 Ev.Pr.dH) y.2.1).cells ++ (((Ev.D.int .i64) y.2.2.1).cells ++ ([] : List Ev.D)))) Tryd.underlying27 (by kernel_rfl) (Ev.Cf.cons (α := Ev.Pr.gQ) (enc := Ev.Pr.lg) (enc2 := fun (y : (List Ev.Pr.eX) × Int × Unit) => ((Ev.O0 Ev.Pr.dH) y.1).cells ++ (((Ev.D.int .i64) y.2.1).cells ++ (([] : List Ev.D)))) (sz := 7) (tot := 2) rfl (by kernel_rfl) open_K_Table (Ev.Cf.cons (α := (List Ev.Pr.eX)) (enc := (Ev.O0 Ev.Pr.dH)) (enc2 := fun (y : Int × Unit) => ((Ev.D.int .i64) y.1).cells ++ (([] : List Ev.D))) (sz := 1) (tot := 1) rfl (by kernel_rfl) (Ev.qL.slice Tryd.underlying25 open_K_Part (fun x => (Ev.Pr.eX.len x).trans cells58.symm) (by rw [cells58]; decide)) (Ev.Cf.cons (α := Int) (enc := (Ev.D.int .i64)) (enc2 := fun (y : Unit) => ([] : List Ev.D)) (sz := 1) (tot := 0) rfl (by kernel_rfl) (Ev.qL.int Tryd.underlying3) Ev.Cf.nil))) (fun y => ⟨y.1, y.2.1, y.2.2.1⟩) (fun y => rfl) (fun _ _ => trivial)
theorem spec (x0 : Ev.Pr.jB) (x1 : Int) (x2 : Int) (x3 : Int)  : Ev.bN (Ev.Qc 0 0 G) Tryd.prog 3 [Ev.Pr.oC x0, Ev.D.int .i64 x1, Ev.D.int .i64 x2, Ev.D.int .i64 x3] (.d (.bool true)) :=
  Ev.Pr.yS E 10000 x0 x1 x2 x3 true (Ev.Pr.KF x0 x1 x2 x3 )
theorem walk (w : World) (hG : G w (fun _ _ => False)) (x0 : Ev.Pr.jB) (x1 : Int) (x2 : Int) (x3 : Int)  (v0 v1 v2 v3 : Value) (r0 : Ev.bT w Ev.Iz (Ev.Pr.oC x0) v0) (r1 : Ev.bT w Ev.Iz (Ev.D.int .i64 x1) v1) (r2 : Ev.bT w Ev.Iz (Ev.D.int .i64 x2) v2) (r3 : Ev.bT w Ev.Iz (Ev.D.int .i64 x3) v3) : Calls Tryd.prog 3 #[v0, v1, v2, v3] w fun e w' => e = .returned (.bool true) ∧ Below w.heap.size w w' :=
  (Ev.KI R_ok (spec x0 x1 x2 x3 ) w hG [v0, v1, v2, v3] rfl (fun i y u hy hu => by
    match i, hy, hu with
    | 0, hy, hu => cases hy; cases hu; exact r0
    | 1, hy, hu => cases hy; cases hu; exact r1
    | 2, hy, hu => cases hy; cases hu; exact r2
    | 3, hy, hu => cases hy; cases hu; exact r3
    | i + 4, hy, hu => cases hy)).mono fun e w' ⟨u, he, hu, hb⟩ => by
    have := hu.val rfl
    cases this
    exact ⟨he, hb⟩


theorem laidOut : laidOutB Tryd.prog = true := by kernel_rfl
/-- The witness: the settled world, the listed variables holding what their initialisers lay. -/
noncomputable def laidWorld (os : Os) : World :=
  let w0 := World.holding Tryd.prog os ⟨#[], #[.agg #[.slice none 0 0, .slice none 0 0, .slice none 0 0, .slice none 0 0, .slice none 0 0, .slice none 0 0, .slice none 0 0, .slice none 0 0, .int .i64 0], .int .i64 0, .int .i64 0, .int .i64 0], []⟩
  let put (h : Array Obj) (g : Nat) (cs : Array Value) : Array Obj := h.modify g fun
    | .cells _ t frozen => .cells cs t frozen
    | o => o
  let h1 := put w0.heap 1 ((List.range 16).flatMap fun i => [Value.int .u8 (Lib.accLo i), Value.int .u8 (Lib.accHi i)]).toArray
  let h2 := put h1 0 (Lib.firstTab.map fun z => Value.int .u8 z).toArray
  { w0 with heap := h2 }
theorem laid_met (os : Os) : laidMet Tryd.prog Rows.tableTurnedRow.laid ((laidWorld os).forCall (fun _ _ => 0) ⟨#[], #[.agg #[.slice none 0 0, .slice none 0 0, .slice none 0 0, .slice none 0 0, .slice none 0 0, .slice none 0 0, .slice none 0 0, .slice none 0 0, .int .i64 0], .int .i64 0, .int .i64 0, .int .i64 0], []⟩).memory :=
  (LaidIn.of_run (l := Rows.tableTurnedRow.laid) [1, 0] 8 (by kernel_rfl) (by kernel_rfl) (by kernel_rfl) (by kernel_rfl)).met
theorem reads (os : Os) {H : Type} (enc : TypeId × Value → H) : ∃ places, DataW.whole enc Tryd.prog ((laidWorld os).forCall (fun _ _ => 0) ⟨#[], #[.agg #[.slice none 0 0, .slice none 0 0, .slice none 0 0, .slice none 0 0, .slice none 0 0, .slice none 0 0, .slice none 0 0, .slice none 0 0, .int .i64 0], .int .i64 0, .int .i64 0, .int .i64 0], []⟩).memory Tryd.f3.params.toList Rows.tableTurnedSpec.vars false (#[.agg #[.slice none 0 0, .slice none 0 0, .slice none 0 0, .slice none 0 0, .slice none 0 0, .slice none 0 0, .slice none 0 0, .slice none 0 0, .int .i64 0], .int .i64 0, .int .i64 0, .int .i64 0] : Array Value).toList 8 = some ([.agg [.agg [.nil, .nil, .nil, .nil, .nil, .nil, .nil], .nil, .lit (.int .i64 0)], .lit (.int .i64 0), .lit (.int .i64 0), .lit (.int .i64 0)], [], places) :=
  ⟨[], by kernel_rfl⟩

set_option maxRecDepth 100000 in
theorem lifted (os : Os) (started : os.Started) (H : Type) (enc : TypeId × Value → H) (F : Stop.Interp) :
    ReturnsInHanded {} Tryd.checked os 3 .any ((OpenSpec.ofChange Rows.tableTurnedSpec).preRow enc Tryd.prog Tryd.f3 Rows.tableTurnedRow.domain false Rows.tableTurnedRow.laid) (((OpenSpec.ofChange Rows.tableTurnedSpec).at F).post enc Tryd.prog Tryd.f3 false true false false) := by
  obtain ⟨places, hx⟩ := reads os enc
  refine returnsInHanded_of_row (C := Tryd.checked) (s := OpenSpec.ofChange Rows.tableTurnedSpec) own started (by kernel_rfl) Tryd.func3
    (witness_row_at (enc := enc) (C := Tryd.checked) false (laidWorld os) #[.agg #[.slice none 0 0, .slice none 0 0, .slice none 0 0, .slice none 0 0, .slice none 0 0, .slice none 0 0, .slice none 0 0, .slice none 0 0, .int .i64 0], .int .i64 0, .int .i64 0, .int .i64 0] rfl (by kernel_rfl) (by kernel_rfl) (by kernel_rfl)
      (OpenSpec.preRow_of_cond 8 hx (by kernel_rfl) (fun k hk => by cases hk) (by kernel_rfl) (laid_met os))) ?_
  intro W base args ds gs before hval hW _ _ _ hL hsh _
  have hW' := hW
  obtain ⟨p, q, hA0, hV, rfl, hfz, hnd⟩ := hW
  have hlt : ∀ x ∈ p, x.block < W.heap.size := fun x hx => by simpa using hW'.lt x (by simp [hx])
  have hA : DataW.TrodAll enc Tryd.prog W 0 (fun _ => true) true Tryd.f3.params.toList args.toList ds p := hA0
  rw [Tryd.params3] at hA hval
  obtain ⟨v0, v1, v2, v3, d0, d1, d2, d3, p0, p1, p2, p3, rfl, rfl, rfl, h0, h1, h2, h3⟩ := trodAll_four hA
  obtain ⟨x0, w0, r0⟩ := Ev.MV Tryd.underlying27 open_K_App Ev.Pr.jB.agg (hval 0 _ _ rfl rfl) h0
  obtain ⟨x1, w1, r1⟩ := Ev.N9 (b0 := 0) (Ev.qL.int Tryd.underlying3) (fun _ => rfl) (by obtain ⟨q, rfl⟩ := okWide_int Tryd.underlying3 (hval 1 _ _ rfl rfl); rfl) h1
  obtain ⟨x2, w2, r2⟩ := Ev.N9 (b0 := 0) (Ev.qL.int Tryd.underlying3) (fun _ => rfl) (by obtain ⟨q, rfl⟩ := okWide_int Tryd.underlying3 (hval 2 _ _ rfl rfl); rfl) h2
  obtain ⟨x3, w3, r3⟩ := Ev.N9 (b0 := 0) (Ev.qL.int Tryd.underlying3) (fun _ => rfl) (by obtain ⟨q, rfl⟩ := okWide_int Tryd.underlying3 (hval 3 _ _ rfl rfl); rfl) h3
  obtain ⟨rfl, rfl⟩ := trodVars_none hV
  refine (walk W trivial x0 x1 x2 x3  v0 v1 v2 v3 r0 r1 r2 r3).mono fun e W' ⟨he, hb⟩ => ?_
  subst he
  exact ⟨_, rfl, _, _, _, _, _, _, hW', trodAll_mk1 (shut_bool (by kernel_rfl) _), trodAll_mk4 (Below.trod laidOut (by kernel_rfl) (of_decide_eq_true (by kernel_rfl)) h0 hb (fun x hx => hlt x (by simp [hx]))) (Below.trod laidOut (by kernel_rfl) (of_decide_eq_true (by kernel_rfl)) h1 hb (fun x hx => hlt x (by simp [hx]))) (Below.trod laidOut (by kernel_rfl) (of_decide_eq_true (by kernel_rfl)) h2 hb (fun x hx => hlt x (by simp [hx]))) (Below.trod laidOut (by kernel_rfl) (of_decide_eq_true (by kernel_rfl)) h3 hb (fun x hx => hlt x (by simp [hx]))), rfl, hb.frame _, fun h => by cases h⟩

theorem said : Rows.TableTurnedSaid :=
  OpenClaim.holds_of_cond 3 Tryd.f3 rfl rfl rfl rfl rfl rfl rfl ⟨rfl, rfl, rfl, rfl, rfl⟩ rfl rfl rfl rfl rfl (by kernel_rfl) Tryd.func3 (by kernel_rfl)
    (of_decide_eq_true (by kernel_rfl)) (by unfold Func.isWrapper; first | (rw [if_pos (by decide +kernel)]; kernel_rfl) | (rw [if_neg (by decide +kernel)]; exact ⟨rfl, rfl⟩))
    (fun os started H enc _ F => by rw [OpenClaim.pre_eq_preRow]; exact lifted os started H enc F)

theorem plain (f : FuncId) (fn : Func) (hf : Tryd.pinned.checked.prog.funcNamed "portico/porticolaw21.TableTurned" = some f) (hfn : Tryd.pinned.checked.prog.funcs[f]? = some fn) :
    false = Tryd.pinned.checked.prog.looks [] ∧ ∀ (j : Nat) t, fn.params[j]? = some t → Tryd.pinned.checked.prog.wantsStandIn t = false := by
  obtain rfl : f = 3 := Option.some.inj ((show Tryd.prog.funcNamed "portico/porticolaw21.TableTurned" = some 3 by kernel_rfl).symm.trans hf) |>.symm
  obtain rfl : fn = Tryd.f3 := (Option.some.inj (Tryd.func3.symm.trans hfn)).symm
  refine ⟨by kernel_rfl, fun j t ht => ?_⟩
  rw [Tryd.params3] at ht
  match j with
  | 0 =>
    obtain rfl := Option.some.inj ht
    exact (show Tryd.prog.wantsStandIn 27 = false by kernel_rfl)
  | 1 =>
    obtain rfl := Option.some.inj ht
    exact (show Tryd.prog.wantsStandIn 3 = false by kernel_rfl)
  | 2 =>
    obtain rfl := Option.some.inj ht
    exact (show Tryd.prog.wantsStandIn 3 = false by kernel_rfl)
  | 3 =>
    obtain rfl := Option.some.inj ht
    exact (show Tryd.prog.wantsStandIn 3 = false by kernel_rfl)
  | j + 4 => cases ht

theorem card : Rows.TableTurnedCardSaid :=
  Claim7.holds_tied_plain_at .later [] _ _ _ _ said (fun _ h => by cases h) (by kernel_rfl) (fun _ h => by cases h) tableTurned_row_tie rfl ⟨rfl, rfl⟩ (by kernel_rfl) rfl plain (by kernel_rfl)
end TableTurned
end Go.Proofs.YtdcagjnahedliaaDoor

/- PatternText: the law answers true, whatever is handed in. It is shown in two parts: the walk (the text that ends in Walk: the functions of the program as typed Lean functions, each proved against the given model), and the pure law about these (the texts that bear Pure). Its closed sentence is one of these functions, and carried out by the kernel; some functions of Go's library are answered by the kit's contracts. The card ties the listed tables to the program's text; it speaks of a pruned copy of the project (the packages that the seat's roots load). No conditions. -/
import Derived.Test.YtjlfkpfombdelaaDoorPartD
import Derived.Test.YtjlfkpfombdelaaDoorRows
import Derived.Test.YtjlfkpfombdelaaDoorCards
import Derived.Test.YtjlfkpfombdelaaDoorTie
import Derived.Test.YtjlfkpfombdelaaDoorCards
import Derived.Test.YtjlfkpfombdelaaDoorTie
import Derived.WalkKit
import Derived.ProofKit
import Derived.OpenShut
import Derived.Carry
import Derived.Deep.DeepHandedRow
import Derived.Lib.LaidIn
import Derived.Lib.LaidU8T
import Derived.Shelf.Vars
import Derived.Deep.DeepHandedRow
import Derived.Lib.LaidIn
import Derived.Lib.LaidU8T
import Derived.Shelf.Vars
namespace Go.Proofs.YtjlfkpfombdelaaDoor
namespace PatternText
set_option linter.unusedVariables false
open Go.ChangeShapes Go.WideShapes Go.ChangeAt Go.RowKit

theorem own : ownKnob Tryd.prog.godebug = none := by kernel_rfl

def ren_wb : Go.Shelf.Ren := { f := fun x => bif Nat.beq x 167 then 36 else bif Nat.beq x 240 then 51 else bif Nat.beq x 276 then 66 else x, t := fun x => bif Nat.beq x 70 then 68 else bif Nat.beq x 5 then 5 else bif Nat.beq x 75 then 72 else bif Nat.beq x 0 then 0 else bif Nat.beq x 72 then 70 else bif Nat.beq x 37 then 56 else bif Nat.beq x 4 then 4 else bif Nat.beq x 164 then 99 else bif Nat.beq x 80 then 76 else bif Nat.beq x 9 then 9 else bif Nat.beq x 3 then 3 else bif Nat.beq x 20 then 20 else x, g := fun x => x }
set_option maxRecDepth 100000 in
theorem lay_wb : Go.Proofs.Lays.n167 Tryd.prog ren_wb where
  mixed := by kernel_rfl
  f167 := by kernel_rfl
  f240 := by kernel_rfl
  f276 := by kernel_rfl
  t0 := by kernel_rfl
  a0 := fun w => by kernel_rfl
  z0 := fun w => by kernel_rfl
  v0 := fun w => by kernel_rfl
  t4 := by kernel_rfl
  a4 := fun w => by kernel_rfl
  z4 := fun w => by kernel_rfl
  v4 := fun w => by kernel_rfl
  t5 := by kernel_rfl
  a5 := fun w => by kernel_rfl
  z5 := fun w => by kernel_rfl
  v5 := fun w => by kernel_rfl
  t9 := by kernel_rfl
  a9 := fun w => by kernel_rfl
  z9 := fun w => by kernel_rfl
  v9 := fun w => by kernel_rfl
  t20 := by kernel_rfl
  a20 := fun w => by kernel_rfl
  z20 := fun w => by kernel_rfl
  v20 := fun w => by kernel_rfl
  t37 := by kernel_rfl
  a37 := fun w => by kernel_rfl
  z37 := fun w => by kernel_rfl
  v37 := fun w => by kernel_rfl
  t70 := by kernel_rfl
  a70 := fun w => by kernel_rfl
  z70 := fun w => by kernel_rfl
  v70 := fun w => by kernel_rfl
  t72 := by kernel_rfl
  a72 := fun w => by kernel_rfl
  z72 := fun w => by kernel_rfl
  v72 := fun w => by kernel_rfl
  t75 := by kernel_rfl
  a75 := fun w => by kernel_rfl
  z75 := fun w => by kernel_rfl
  v75 := fun w => by kernel_rfl
  t164 := by kernel_rfl
  a164 := fun w => by kernel_rfl
  z164 := fun w => by kernel_rfl
  v164 := fun w => by kernel_rfl
set_option maxRecDepth 100000 in
theorem ext_wb : Go.Proofs.Builder.Extra Tryd.prog ren_wb where
  sizeBuilder := by kernel_rfl
  liesBuilder := by kernel_rfl
  t5 := by kernel_rfl
  a5 := fun w => by kernel_rfl
  z5 := fun w => by kernel_rfl
  v5 := fun w => by kernel_rfl
  infoByte := by kernel_rfl
  cellsByte := by kernel_rfl
  sizeByte := by kernel_rfl
  neB5 := by show ¬ _ = _; decide
def ren_ws : Go.Shelf.Ren := { f := fun x => bif Nat.beq x 166 then 37 else bif Nat.beq x 240 then 51 else bif Nat.beq x 276 then 66 else x, t := fun x => bif Nat.beq x 70 then 68 else bif Nat.beq x 9 then 9 else bif Nat.beq x 3 then 3 else bif Nat.beq x 75 then 72 else bif Nat.beq x 0 then 0 else bif Nat.beq x 72 then 70 else bif Nat.beq x 37 then 56 else bif Nat.beq x 4 then 4 else bif Nat.beq x 164 then 99 else bif Nat.beq x 80 then 76 else bif Nat.beq x 5 then 5 else bif Nat.beq x 20 then 20 else x, g := fun x => x }
set_option maxRecDepth 100000 in
theorem lay_ws : Go.Proofs.Lays.n166 Tryd.prog ren_ws where
  mixed := by kernel_rfl
  f166 := by kernel_rfl
  f240 := by kernel_rfl
  f276 := by kernel_rfl
  t0 := by kernel_rfl
  a0 := fun w => by kernel_rfl
  z0 := fun w => by kernel_rfl
  v0 := fun w => by kernel_rfl
  t3 := by kernel_rfl
  a3 := fun w => by kernel_rfl
  z3 := fun w => by kernel_rfl
  v3 := fun w => by kernel_rfl
  t4 := by kernel_rfl
  a4 := fun w => by kernel_rfl
  z4 := fun w => by kernel_rfl
  v4 := fun w => by kernel_rfl
  t9 := by kernel_rfl
  a9 := fun w => by kernel_rfl
  z9 := fun w => by kernel_rfl
  v9 := fun w => by kernel_rfl
  t20 := by kernel_rfl
  a20 := fun w => by kernel_rfl
  z20 := fun w => by kernel_rfl
  v20 := fun w => by kernel_rfl
  t37 := by kernel_rfl
  a37 := fun w => by kernel_rfl
  z37 := fun w => by kernel_rfl
  v37 := fun w => by kernel_rfl
  t70 := by kernel_rfl
  a70 := fun w => by kernel_rfl
  z70 := fun w => by kernel_rfl
  v70 := fun w => by kernel_rfl
  t72 := by kernel_rfl
  a72 := fun w => by kernel_rfl
  z72 := fun w => by kernel_rfl
  v72 := fun w => by kernel_rfl
  t75 := by kernel_rfl
  a75 := fun w => by kernel_rfl
  z75 := fun w => by kernel_rfl
  v75 := fun w => by kernel_rfl
  t164 := by kernel_rfl
  a164 := fun w => by kernel_rfl
  z164 := fun w => by kernel_rfl
  v164 := fun w => by kernel_rfl
set_option maxRecDepth 100000 in
theorem ext_ws : Go.Proofs.Builder.Extra Tryd.prog ren_ws where
  sizeBuilder := by kernel_rfl
  liesBuilder := by kernel_rfl
  t5 := by kernel_rfl
  a5 := fun w => by kernel_rfl
  z5 := fun w => by kernel_rfl
  v5 := fun w => by kernel_rfl
  infoByte := by kernel_rfl
  cellsByte := by kernel_rfl
  sizeByte := by kernel_rfl
  neB5 := by show ¬ _ = _; decide
def ren_st : Go.Shelf.Ren := { f := fun x => bif Nat.beq x 169 then 38 else x, t := fun x => bif Nat.beq x 70 then 68 else bif Nat.beq x 9 then 9 else bif Nat.beq x 0 then 0 else bif Nat.beq x 72 then 70 else bif Nat.beq x 37 then 56 else bif Nat.beq x 127 then 88 else bif Nat.beq x 3 then 3 else bif Nat.beq x 5 then 5 else bif Nat.beq x 4 then 4 else bif Nat.beq x 20 then 20 else x, g := fun x => x }
set_option maxRecDepth 100000 in
theorem lay_st : Go.Proofs.Lays.n169 Tryd.prog ren_st where
  mixed := by kernel_rfl
  f169 := by kernel_rfl
  t0 := by kernel_rfl
  a0 := fun w => by kernel_rfl
  z0 := fun w => by kernel_rfl
  v0 := fun w => by kernel_rfl
  t3 := by kernel_rfl
  a3 := fun w => by kernel_rfl
  z3 := fun w => by kernel_rfl
  v3 := fun w => by kernel_rfl
  t9 := by kernel_rfl
  a9 := fun w => by kernel_rfl
  z9 := fun w => by kernel_rfl
  v9 := fun w => by kernel_rfl
  t37 := by kernel_rfl
  a37 := fun w => by kernel_rfl
  z37 := fun w => by kernel_rfl
  v37 := fun w => by kernel_rfl
  t70 := by kernel_rfl
  a70 := fun w => by kernel_rfl
  z70 := fun w => by kernel_rfl
  v70 := fun w => by kernel_rfl
  t72 := by kernel_rfl
  a72 := fun w => by kernel_rfl
  z72 := fun w => by kernel_rfl
  v72 := fun w => by kernel_rfl
  t127 := by kernel_rfl
  a127 := fun w => by kernel_rfl
  z127 := fun w => by kernel_rfl
  v127 := fun w => by kernel_rfl
set_option maxRecDepth 100000 in
theorem ext_st : Go.Proofs.Builder.Extra Tryd.prog ren_st where
  sizeBuilder := by kernel_rfl
  liesBuilder := by kernel_rfl
  t5 := by kernel_rfl
  a5 := fun w => by kernel_rfl
  z5 := fun w => by kernel_rfl
  v5 := fun w => by kernel_rfl
  infoByte := by kernel_rfl
  cellsByte := by kernel_rfl
  sizeByte := by kernel_rfl
  neB5 := by show ¬ _ = _; decide
def ren_trim : Go.Shelf.Ren := { f := fun x => bif Nat.beq x 160 then 49 else bif Nat.beq x 232 then 60 else bif Nat.beq x 231 then 59 else bif Nat.beq x 227 then 61 else bif Nat.beq x 234 then 63 else bif Nat.beq x 233 then 62 else bif Nat.beq x 236 then 65 else bif Nat.beq x 235 then 64 else bif Nat.beq x 228 then 75 else bif Nat.beq x 271 then 78 else bif Nat.beq x 151 then 77 else bif Nat.beq x 197 then 76 else bif Nat.beq x 120 then 87 else bif Nat.beq x 152 then 86 else bif Nat.beq x 260 then 85 else bif Nat.beq x 137 then 72 else bif Nat.beq x 119 then 92 else bif Nat.beq x 224 then 89 else bif Nat.beq x 225 then 88 else bif Nat.beq x 217 then 83 else bif Nat.beq x 266 then 91 else x, t := fun x => bif Nat.beq x 9 then 9 else bif Nat.beq x 4 then 4 else bif Nat.beq x 3 then 3 else bif Nat.beq x 5 then 5 else bif Nat.beq x 117 then 95 else bif Nat.beq x 116 then 94 else bif Nat.beq x 0 then 0 else bif Nat.beq x 124 then 98 else bif Nat.beq x 21 then 21 else bif Nat.beq x 105 then 105 else bif Nat.beq x 46 then 82 else bif Nat.beq x 119 then 112 else bif Nat.beq x 139 then 115 else bif Nat.beq x 138 then 114 else bif Nat.beq x 20 then 20 else bif Nat.beq x 37 then 56 else x, g := fun x => bif Nat.beq x 3 then 1 else bif Nat.beq x 4 then 2 else x }
set_option maxRecDepth 100000 in
theorem lay_trim : Go.Proofs.Lays.n160 Tryd.prog ren_trim where
  mixed := by kernel_rfl
  f119 := by kernel_rfl
  f120 := by kernel_rfl
  f137 := by kernel_rfl
  f151 := by kernel_rfl
  f152 := by kernel_rfl
  f160 := by kernel_rfl
  f197 := by kernel_rfl
  f217 := by kernel_rfl
  f224 := by kernel_rfl
  f225 := by kernel_rfl
  f227 := by kernel_rfl
  f228 := by kernel_rfl
  f231 := by kernel_rfl
  f232 := by kernel_rfl
  f233 := by kernel_rfl
  f234 := by kernel_rfl
  f235 := by kernel_rfl
  f236 := by kernel_rfl
  f260 := by kernel_rfl
  f266 := by kernel_rfl
  f271 := by kernel_rfl
  t0 := by kernel_rfl
  a0 := fun w => by kernel_rfl
  z0 := fun w => by kernel_rfl
  v0 := fun w => by kernel_rfl
  t3 := by kernel_rfl
  a3 := fun w => by kernel_rfl
  z3 := fun w => by kernel_rfl
  v3 := fun w => by kernel_rfl
  t4 := by kernel_rfl
  a4 := fun w => by kernel_rfl
  z4 := fun w => by kernel_rfl
  v4 := fun w => by kernel_rfl
  t5 := by kernel_rfl
  a5 := fun w => by kernel_rfl
  z5 := fun w => by kernel_rfl
  v5 := fun w => by kernel_rfl
  t9 := by kernel_rfl
  a9 := fun w => by kernel_rfl
  z9 := fun w => by kernel_rfl
  v9 := fun w => by kernel_rfl
  t21 := by kernel_rfl
  a21 := fun w => by kernel_rfl
  z21 := fun w => by kernel_rfl
  v21 := fun w => by kernel_rfl
  t46 := by kernel_rfl
  a46 := fun w => by kernel_rfl
  z46 := fun w => by kernel_rfl
  v46 := fun w => by kernel_rfl
  t105 := by kernel_rfl
  a105 := fun w => by kernel_rfl
  z105 := fun w => by kernel_rfl
  v105 := fun w => by kernel_rfl
  t116 := by kernel_rfl
  a116 := fun w => by kernel_rfl
  z116 := fun w => by kernel_rfl
  t117 := by kernel_rfl
  a117 := fun w => by kernel_rfl
  z117 := fun w => by kernel_rfl
  v117 := fun w => by kernel_rfl
  t119 := by kernel_rfl
  a119 := fun w => by kernel_rfl
  z119 := fun w => by kernel_rfl
  t124 := by kernel_rfl
  a124 := fun w => by kernel_rfl
  z124 := fun w => by kernel_rfl
  v124 := fun w => by kernel_rfl
  t138 := by kernel_rfl
  a138 := fun w => by kernel_rfl
  z138 := fun w => by kernel_rfl
  v138 := fun w => by kernel_rfl
  t139 := by kernel_rfl
  a139 := fun w => by kernel_rfl
  z139 := fun w => by kernel_rfl
  v139 := fun w => by kernel_rfl
  g3 := by kernel_rfl
  g4 := by kernel_rfl
theorem h116_trim : (Tryd.prog.info? (ren_trim.t 116)).map (fun i => (i.zero, i.size)) = some (some (.agg (Array.replicate 256 (.bool false))), 256) := by kernel_rfl
def ren_ixb : Go.Shelf.Ren := { f := fun x => bif Nat.beq x 137 then 72 else bif Nat.beq x 217 then 83 else bif Nat.beq x 266 then 91 else x, t := fun x => bif Nat.beq x 9 then 9 else bif Nat.beq x 5 then 5 else bif Nat.beq x 3 then 3 else bif Nat.beq x 0 then 0 else bif Nat.beq x 4 then 4 else bif Nat.beq x 20 then 20 else bif Nat.beq x 37 then 56 else x, g := fun x => x }
set_option maxRecDepth 100000 in
theorem lay_ixb : Go.Proofs.Lays.n137 Tryd.prog ren_ixb where
  mixed := by kernel_rfl
  f137 := by kernel_rfl
  f217 := by kernel_rfl
  f266 := by kernel_rfl
  t3 := by kernel_rfl
  a3 := fun w => by kernel_rfl
  z3 := fun w => by kernel_rfl
  v3 := fun w => by kernel_rfl
  t5 := by kernel_rfl
  a5 := fun w => by kernel_rfl
  z5 := fun w => by kernel_rfl
  v5 := fun w => by kernel_rfl
  t9 := by kernel_rfl
  a9 := fun w => by kernel_rfl
  z9 := fun w => by kernel_rfl
  v9 := fun w => by kernel_rfl
def ren_split : Go.Shelf.Ren := { f := fun x => bif Nat.beq x 146 then 40 else bif Nat.beq x 221 then 53 else bif Nat.beq x 268 then 68 else bif Nat.beq x 138 then 69 else bif Nat.beq x 143 then 70 else bif Nat.beq x 195 then 79 else bif Nat.beq x 197 then 76 else bif Nat.beq x 218 then 80 else bif Nat.beq x 219 then 81 else bif Nat.beq x 260 then 85 else bif Nat.beq x 217 then 83 else bif Nat.beq x 225 then 88 else bif Nat.beq x 224 then 89 else bif Nat.beq x 267 then 90 else bif Nat.beq x 266 then 91 else bif Nat.beq x 314 then 93 else x, t := fun x => bif Nat.beq x 9 then 9 else bif Nat.beq x 31 then 28 else bif Nat.beq x 3 then 3 else bif Nat.beq x 4 then 4 else bif Nat.beq x 0 then 0 else bif Nat.beq x 105 then 105 else bif Nat.beq x 21 then 21 else bif Nat.beq x 5 then 5 else bif Nat.beq x 46 then 82 else bif Nat.beq x 119 then 112 else bif Nat.beq x 139 then 115 else bif Nat.beq x 138 then 114 else bif Nat.beq x 146 then 118 else bif Nat.beq x 51 then 117 else bif Nat.beq x 20 then 20 else bif Nat.beq x 37 then 56 else x, g := fun x => bif Nat.beq x 1 then 0 else bif Nat.beq x 3 then 1 else bif Nat.beq x 4 then 2 else x }
set_option maxRecDepth 100000 in
theorem lay_split : Go.Proofs.Lays.n146 Tryd.prog ren_split where
  mixed := by kernel_rfl
  f138 := by kernel_rfl
  f143 := by kernel_rfl
  f146 := by kernel_rfl
  f195 := by kernel_rfl
  f197 := by kernel_rfl
  f217 := by kernel_rfl
  f218 := by kernel_rfl
  f219 := by kernel_rfl
  f221 := by kernel_rfl
  f224 := by kernel_rfl
  f225 := by kernel_rfl
  f260 := by kernel_rfl
  f266 := by kernel_rfl
  f267 := by kernel_rfl
  f268 := by kernel_rfl
  f314 := by kernel_rfl
  t0 := by kernel_rfl
  a0 := fun w => by kernel_rfl
  z0 := fun w => by kernel_rfl
  v0 := fun w => by kernel_rfl
  t3 := by kernel_rfl
  a3 := fun w => by kernel_rfl
  z3 := fun w => by kernel_rfl
  v3 := fun w => by kernel_rfl
  t4 := by kernel_rfl
  a4 := fun w => by kernel_rfl
  z4 := fun w => by kernel_rfl
  v4 := fun w => by kernel_rfl
  t5 := by kernel_rfl
  a5 := fun w => by kernel_rfl
  z5 := fun w => by kernel_rfl
  v5 := fun w => by kernel_rfl
  t9 := by kernel_rfl
  a9 := fun w => by kernel_rfl
  z9 := fun w => by kernel_rfl
  v9 := fun w => by kernel_rfl
  t21 := by kernel_rfl
  a21 := fun w => by kernel_rfl
  z21 := fun w => by kernel_rfl
  v21 := fun w => by kernel_rfl
  t31 := by kernel_rfl
  a31 := fun w => by kernel_rfl
  z31 := fun w => by kernel_rfl
  v31 := fun w => by kernel_rfl
  t46 := by kernel_rfl
  a46 := fun w => by kernel_rfl
  z46 := fun w => by kernel_rfl
  v46 := fun w => by kernel_rfl
  t51 := by kernel_rfl
  a51 := fun w => by kernel_rfl
  z51 := fun w => by kernel_rfl
  v51 := fun w => by kernel_rfl
  t105 := by kernel_rfl
  a105 := fun w => by kernel_rfl
  z105 := fun w => by kernel_rfl
  v105 := fun w => by kernel_rfl
  t119 := by kernel_rfl
  a119 := fun w => by kernel_rfl
  z119 := fun w => by kernel_rfl
  t138 := by kernel_rfl
  a138 := fun w => by kernel_rfl
  z138 := fun w => by kernel_rfl
  v138 := fun w => by kernel_rfl
  t139 := by kernel_rfl
  a139 := fun w => by kernel_rfl
  z139 := fun w => by kernel_rfl
  v139 := fun w => by kernel_rfl
  t146 := by kernel_rfl
  a146 := fun w => by kernel_rfl
  z146 := fun w => by kernel_rfl
  v146 := fun w => by kernel_rfl
  g1 := by kernel_rfl
  g3 := by kernel_rfl
  g4 := by kernel_rfl
theorem i9_split : (Tryd.prog.info? (ren_split.t 9)).map (fun i => (i.zero, i.size, i.bytes)) = some (some (.string ByteArray.empty), 1, 16) := by kernel_rfl
def ren_join : Go.Shelf.Ren := { f := fun x => bif Nat.beq x 156 then 43 else bif Nat.beq x 165 then 56 else bif Nat.beq x 166 then 37 else bif Nat.beq x 169 then 38 else bif Nat.beq x 240 then 51 else bif Nat.beq x 241 then 73 else bif Nat.beq x 276 then 66 else bif Nat.beq x 277 then 84 else x, t := fun x => bif Nat.beq x 31 then 28 else bif Nat.beq x 9 then 9 else bif Nat.beq x 3 then 3 else bif Nat.beq x 4 then 4 else bif Nat.beq x 0 then 0 else bif Nat.beq x 20 then 20 else bif Nat.beq x 72 then 70 else bif Nat.beq x 76 then 74 else bif Nat.beq x 70 then 68 else bif Nat.beq x 37 then 56 else bif Nat.beq x 75 then 72 else bif Nat.beq x 127 then 88 else bif Nat.beq x 164 then 99 else bif Nat.beq x 5 then 5 else bif Nat.beq x 80 then 76 else x, g := fun x => x }
set_option maxRecDepth 100000 in
theorem lay_join : Go.Proofs.Lays.n156 Tryd.prog ren_join where
  mixed := by kernel_rfl
  f156 := by kernel_rfl
  f165 := by kernel_rfl
  f166 := by kernel_rfl
  f169 := by kernel_rfl
  f240 := by kernel_rfl
  f241 := by kernel_rfl
  f276 := by kernel_rfl
  f277 := by kernel_rfl
  t0 := by kernel_rfl
  a0 := fun w => by kernel_rfl
  z0 := fun w => by kernel_rfl
  v0 := fun w => by kernel_rfl
  t3 := by kernel_rfl
  a3 := fun w => by kernel_rfl
  z3 := fun w => by kernel_rfl
  v3 := fun w => by kernel_rfl
  t4 := by kernel_rfl
  a4 := fun w => by kernel_rfl
  z4 := fun w => by kernel_rfl
  v4 := fun w => by kernel_rfl
  t9 := by kernel_rfl
  a9 := fun w => by kernel_rfl
  z9 := fun w => by kernel_rfl
  v9 := fun w => by kernel_rfl
  t20 := by kernel_rfl
  a20 := fun w => by kernel_rfl
  z20 := fun w => by kernel_rfl
  v20 := fun w => by kernel_rfl
  t31 := by kernel_rfl
  a31 := fun w => by kernel_rfl
  z31 := fun w => by kernel_rfl
  v31 := fun w => by kernel_rfl
  t37 := by kernel_rfl
  a37 := fun w => by kernel_rfl
  z37 := fun w => by kernel_rfl
  v37 := fun w => by kernel_rfl
  t70 := by kernel_rfl
  a70 := fun w => by kernel_rfl
  z70 := fun w => by kernel_rfl
  v70 := fun w => by kernel_rfl
  t72 := by kernel_rfl
  a72 := fun w => by kernel_rfl
  z72 := fun w => by kernel_rfl
  v72 := fun w => by kernel_rfl
  t75 := by kernel_rfl
  a75 := fun w => by kernel_rfl
  z75 := fun w => by kernel_rfl
  v75 := fun w => by kernel_rfl
  t76 := by kernel_rfl
  a76 := fun w => by kernel_rfl
  z76 := fun w => by kernel_rfl
  v76 := fun w => by kernel_rfl
  t127 := by kernel_rfl
  a127 := fun w => by kernel_rfl
  z127 := fun w => by kernel_rfl
  v127 := fun w => by kernel_rfl
  t164 := by kernel_rfl
  a164 := fun w => by kernel_rfl
  z164 := fun w => by kernel_rfl
  v164 := fun w => by kernel_rfl
set_option maxRecDepth 100000 in
theorem ext_join : Go.Proofs.Builder.Extra Tryd.prog ren_join where
  sizeBuilder := by kernel_rfl
  liesBuilder := by kernel_rfl
  t5 := by kernel_rfl
  a5 := fun w => by kernel_rfl
  z5 := fun w => by kernel_rfl
  v5 := fun w => by kernel_rfl
  infoByte := by kernel_rfl
  cellsByte := by kernel_rfl
  sizeByte := by kernel_rfl
  neB5 := by show ¬ _ = _; decide


def goodL : List Nat := List.range 116
def rowsL : List Nat := []
noncomputable def prims : Ev.AL Ev.Prim := [(36, Ev.sI), (37, Ev.qW), (38, Ev.rR), (49, Ev.gM Ev.rU), (72, Ev.gM Ev.uT), (40, Ev.gM Ev.j6), (43, Ev.gM Ev.lI)]
noncomputable def cfg : Ev.dX := Ev.vk Tryd.prog goodL rowsL prims true 70
def G : World → (Nat → Nat → Prop) → Prop := Ev.zV 0
theorem G_ok : Ev.mf G := Ev.Av 0
theorem R_ok : Ev.ObjOk (Ev.q8 70 5 G) := Ev.uG G_ok
theorem prims_ok : Ev.uS (Ev.q8 70 5 G) Tryd.prog prims := ⟨Ev.Bn G_ok lay_wb ext_wb, Ev.Bo G_ok lay_ws ext_ws, Ev.Bq G_ok lay_st ext_st, Ev.Ap R_ok lay_trim h116_trim, Ev.Az R_ok lay_ixb, Ev.Ag R_ok lay_split i9_split (fun w fr h => h.1), Ev.Ak R_ok lay_join ext_join, trivial⟩
theorem cfg_ok : Ev.BK (Ev.q8 70 5 G) cfg := Ev.Br G_ok (by kernel_rfl) (by kernel_rfl) (fun _ w => by kernel_rfl) prims_ok


theorem E : Ev.Pr.CE (Ev.q8 70 5 G) where
  obj := ⟨R_ok, fun t k x h => cfg_ok.obj.new t k x h⟩
  strings_Split_ok := fun n x0 x1 r h => Ev.aV.BV (Ev.Ag R_ok lay_split i9_split (fun w fr h => h.1)) (Ev.Bl h)
  strings_Join_ok := fun n x0 x1 r h => Ev.aV.BV (Ev.Ak R_ok lay_join ext_join) (Ev.Bp h)
  strings_Trim_ok := fun n x0 x1 r h => Ev.aV.BV (Ev.Ap R_ok lay_trim h116_trim) (by unfold Ev.iE at h; unfold Ev.rU; split at h <;> simp_all)
  strings_IndexByte_ok := fun n x0 x1 r h => Ev.aV.BV (Ev.Az R_ok lay_ixb) (by unfold Ev.strings_IndexByte at h; cases h; rfl)
  bld := Ev.uw.BC (Ev.Bn G_ok lay_wb ext_wb) (Ev.Bo G_ok lay_ws ext_ws) (Ev.Bq G_ok lay_st ext_st)
theorem cells3 : Tryd.prog.cellsOf 3 = 1 := by kernel_rfl
theorem open_K_Pattern : Ev.ll Tryd.prog 25 Ev.Pr.di (fun _ => True) :=
  Ev.ll.struct (tot := 3) (β := (List Int) × (List Int) × Int × Unit) (enc2 := fun y => ((Ev.CZ (Ev.D.int .i64)) y.1).cells ++ (((Ev.CZ (Ev.D.int .i64)) y.2.1).cells ++ (((Ev.D.int .i64) y.2.2.1).cells ++ ([] : List Ev.D)))) Tryd.underlying25 (by kernel_rfl) (Ev.uk.cons (α := (List Int)) (enc := (Ev.CZ (Ev.D.int .i64))) (enc2 := fun (y : (List Int) × Int × Unit) => ((Ev.CZ (Ev.D.int .i64)) y.1).cells ++ (((Ev.D.int .i64) y.2.1).cells ++ (([] : List Ev.D)))) (sz := 1) (tot := 2) rfl (by kernel_rfl) (Ev.ll.slice Tryd.underlying23 (Ev.ll.int Tryd.underlying3) (fun _ => cells3.symm) (by rw [cells3]; decide)) (Ev.uk.cons (α := (List Int)) (enc := (Ev.CZ (Ev.D.int .i64))) (enc2 := fun (y : Int × Unit) => ((Ev.D.int .i64) y.1).cells ++ (([] : List Ev.D))) (sz := 1) (tot := 1) rfl (by kernel_rfl) (Ev.ll.slice Tryd.underlying23 (Ev.ll.int Tryd.underlying3) (fun _ => cells3.symm) (by rw [cells3]; decide)) (Ev.uk.cons (α := Int) (enc := (Ev.D.int .i64)) (enc2 := fun (y : Unit) => ([] : List Ev.D)) (sz := 1) (tot := 0) rfl (by kernel_rfl) (Ev.ll.int Tryd.underlying3) Ev.uk.nil))) (fun y => ⟨y.1, y.2.1, y.2.2.1⟩) (fun y => rfl) (fun _ _ => trivial)
theorem open_Seg : Ev.ll Tryd.prog 47 Ev.Pr.aF (fun _ => True) :=
  Ev.ll.struct (tot := 2) (β := Int × Ev.Str × Unit) (enc2 := fun y => ((Ev.D.int .i64) y.1).cells ++ ((Ev.D.str y.2.1).cells ++ ([] : List Ev.D))) Tryd.underlying47 (by kernel_rfl) (Ev.uk.cons (α := Int) (enc := (Ev.D.int .i64)) (enc2 := fun (y : Ev.Str × Unit) => (Ev.D.str y.1).cells ++ (([] : List Ev.D))) (sz := 1) (tot := 1) rfl (by kernel_rfl) (Ev.ll.int Tryd.underlying3) (Ev.uk.cons (α := Ev.Str) (enc := Ev.D.str) (enc2 := fun (y : Unit) => ([] : List Ev.D)) (sz := 1) (tot := 0) rfl (by kernel_rfl) (Ev.ll.str Tryd.underlying9) Ev.uk.nil)) (fun y => ⟨y.1, y.2.1⟩) (fun y => rfl) (fun _ _ => trivial)
theorem cells47 : Tryd.prog.cellsOf 47 = 2 := by kernel_rfl
theorem spec (x0 : Ev.Pr.bq) (x1 : Ev.Pr.bq) (x2 : (List Ev.Pr.Seg)) (x3 : Ev.Str)  : Ev.aV (Ev.q8 70 5 G) Tryd.prog 5 [Ev.Pr.di x0, Ev.Pr.di x1, Ev.D.sl (x2.map Ev.Pr.aF) false, Ev.D.str x3] (.d (.bool true)) :=
  Ev.Pr.rZ E 10000 x0 x1 x2 x3 true (Ev.Pr.zt x0 x1 x2 x3 )
theorem walk (w : World) (hG : G w (fun _ _ => False)) (x0 : Ev.Pr.bq) (x1 : Ev.Pr.bq) (x2 : (List Ev.Pr.Seg)) (x3 : Ev.Str)  (v0 v1 v2 v3 : Value) (r0 : Ev.aM w Ev.yI (Ev.Pr.di x0) v0) (r1 : Ev.aM w Ev.yI (Ev.Pr.di x1) v1) (r2 : Ev.aM w Ev.yI (Ev.D.sl (x2.map Ev.Pr.aF) false) v2) (r3 : Ev.aM w Ev.yI (Ev.D.str x3) v3) : Calls Tryd.prog 5 #[v0, v1, v2, v3] w fun e w' => e = .returned (.bool true) ∧ Below w.heap.size w w' :=
  (Ev.zS R_ok (spec x0 x1 x2 x3 ) w hG [v0, v1, v2, v3] rfl (fun i y u hy hu => by
    match i, hy, hu with
    | 0, hy, hu => cases hy; cases hu; exact r0
    | 1, hy, hu => cases hy; cases hu; exact r1
    | 2, hy, hu => cases hy; cases hu; exact r2
    | 3, hy, hu => cases hy; cases hu; exact r3
    | i + 4, hy, hu => cases hy)).mono fun e w' ⟨u, he, hu, hb⟩ => by
    have := hu.val rfl
    cases this
    exact ⟨he, hb⟩

theorem maxLen_of {W : World} (h : W.ShapedOpen Tryd.prog) : Ev.zV 0 W (fun _ _ => False) :=
  ⟨Go.Proofs.cell_of_shapedOpen_int (zero := #[.int .i64 0]) (t := 3) h (of_decide_eq_true (by kernel_rfl)) (by kernel_rfl) rfl (by kernel_rfl) (by kernel_rfl) Tryd.underlying3, fun q => q⟩


theorem laidOut : laidOutB Tryd.prog = true := by kernel_rfl
/-- The witness: the settled world, the listed variables holding what their initialisers lay. -/
noncomputable def laidWorld (os : Os) : World :=
  let w0 := World.holding Tryd.prog os ⟨#[], #[.agg #[.slice none 0 0, .slice none 0 0, .int .i64 0], .agg #[.slice none 0 0, .slice none 0 0, .int .i64 0], .slice none 0 0, .string ByteArray.empty], []⟩
  let put (h : Array Obj) (g : Nat) (cs : Array Value) : Array Obj := h.modify g fun
    | .cells _ t frozen => .cells cs t frozen
    | o => o
  let h1 := put w0.heap 2 ((List.range 16).flatMap fun i => [Value.int .u8 (Lib.accLo i), Value.int .u8 (Lib.accHi i)]).toArray
  let h2 := put h1 1 (Lib.firstTab.map fun z => Value.int .u8 z).toArray
  { w0 with heap := h2 }
theorem laid_met (os : Os) : laidMet Tryd.prog Rows.patternTextRow.laid ((laidWorld os).forCall (fun _ _ => 0) ⟨#[], #[.agg #[.slice none 0 0, .slice none 0 0, .int .i64 0], .agg #[.slice none 0 0, .slice none 0 0, .int .i64 0], .slice none 0 0, .string ByteArray.empty], []⟩).memory :=
  (LaidIn.of_run (l := Rows.patternTextRow.laid) [2, 1] 8 (by kernel_rfl) (by kernel_rfl) (by kernel_rfl) (by kernel_rfl)).met
theorem reads (os : Os) {H : Type} (enc : TypeId × Value → H) : ∃ places, DataW.whole enc Tryd.prog ((laidWorld os).forCall (fun _ _ => 0) ⟨#[], #[.agg #[.slice none 0 0, .slice none 0 0, .int .i64 0], .agg #[.slice none 0 0, .slice none 0 0, .int .i64 0], .slice none 0 0, .string ByteArray.empty], []⟩).memory Tryd.f5.params.toList Rows.patternTextSpec.vars false (#[.agg #[.slice none 0 0, .slice none 0 0, .int .i64 0], .agg #[.slice none 0 0, .slice none 0 0, .int .i64 0], .slice none 0 0, .string ByteArray.empty] : Array Value).toList 8 = some ([.agg [.nil, .nil, .lit (.int .i64 0)], .agg [.nil, .nil, .lit (.int .i64 0)], .nil, .lit (.string [])], [], places) :=
  ⟨[], by kernel_rfl⟩

set_option maxRecDepth 100000 in
theorem lifted (os : Os) (started : os.Started) (H : Type) (enc : TypeId × Value → H) (F : Stop.Interp) :
    ReturnsInHanded {} Tryd.checked os 5 .any ((OpenSpec.ofChange Rows.patternTextSpec).preRow enc Tryd.prog Tryd.f5 Rows.patternTextRow.domain false Rows.patternTextRow.laid) (((OpenSpec.ofChange Rows.patternTextSpec).at F).post enc Tryd.prog Tryd.f5 false true false false) := by
  obtain ⟨places, hx⟩ := reads os enc
  refine returnsInHanded_of_row (C := Tryd.checked) (s := OpenSpec.ofChange Rows.patternTextSpec) own started (by kernel_rfl) Tryd.func5
    (witness_row_at (enc := enc) (C := Tryd.checked) false (laidWorld os) #[.agg #[.slice none 0 0, .slice none 0 0, .int .i64 0], .agg #[.slice none 0 0, .slice none 0 0, .int .i64 0], .slice none 0 0, .string ByteArray.empty] rfl (by kernel_rfl) (by kernel_rfl) (by kernel_rfl)
      (OpenSpec.preRow_of_cond 8 hx (by kernel_rfl) (fun k hk => by cases hk) (by kernel_rfl) (laid_met os))) ?_
  intro W base args ds gs before hval hW _ _ _ hL hsh _
  have hW' := hW
  obtain ⟨p, q, hA0, hV, rfl, hfz, hnd⟩ := hW
  have hlt : ∀ x ∈ p, x.block < W.heap.size := fun x hx => by simpa using hW'.lt x (by simp [hx])
  have hA : DataW.TrodAll enc Tryd.prog W 0 (fun _ => true) true Tryd.f5.params.toList args.toList ds p := hA0
  rw [Tryd.params5] at hA hval
  obtain ⟨v0, v1, v2, v3, d0, d1, d2, d3, p0, p1, p2, p3, rfl, rfl, rfl, h0, h1, h2, h3⟩ := trodAll_four hA
  obtain ⟨x0, w0, r0⟩ := Ev.AB Tryd.underlying25 open_K_Pattern Ev.Pr.bq.agg (hval 0 _ _ rfl rfl) h0
  obtain ⟨x1, w1, r1⟩ := Ev.AB Tryd.underlying25 open_K_Pattern Ev.Pr.bq.agg (hval 1 _ _ rfl rfl) h1
  obtain ⟨x2, w2, r2⟩ := Ev.BX (b0 := 0) (Ev.ll.slice Tryd.underlying22 open_Seg (fun x => (Ev.Pr.Seg.len x).trans cells47.symm) (by rw [cells47]; decide)) (fun _ => rfl) (by obtain ⟨q, ln, cp, rfl⟩ := okWide_slice Tryd.underlying22 (hval 2 _ _ rfl rfl); rfl) h2
  obtain ⟨x3, w3, r3⟩ := Ev.BX (b0 := 0) (Ev.ll.str Tryd.underlying9) (fun _ => rfl) (by obtain ⟨q, rfl⟩ := okWide_string Tryd.underlying9 (hval 3 _ _ rfl rfl); rfl) h3
  obtain ⟨rfl, rfl⟩ := trodVars_none hV
  refine (walk W (maxLen_of hsh) x0 x1 x2 x3  v0 v1 v2 v3 r0 r1 r2 r3).mono fun e W' ⟨he, hb⟩ => ?_
  subst he
  exact ⟨_, rfl, _, _, _, _, _, _, hW', trodAll_mk1 (shut_bool (by kernel_rfl) _), trodAll_mk4 (Below.trod laidOut (by kernel_rfl) (of_decide_eq_true (by kernel_rfl)) h0 hb (fun x hx => hlt x (by simp [hx]))) (Below.trod laidOut (by kernel_rfl) (of_decide_eq_true (by kernel_rfl)) h1 hb (fun x hx => hlt x (by simp [hx]))) (Below.trod laidOut (by kernel_rfl) (of_decide_eq_true (by kernel_rfl)) h2 hb (fun x hx => hlt x (by simp [hx]))) (Below.trod laidOut (by kernel_rfl) (of_decide_eq_true (by kernel_rfl)) h3 hb (fun x hx => hlt x (by simp [hx]))), rfl, hb.frame _, fun h => by cases h⟩

theorem said : Rows.PatternTextSaid :=
  OpenClaim.holds_of_cond 5 Tryd.f5 rfl rfl rfl rfl rfl rfl rfl ⟨rfl, rfl, rfl, rfl, rfl⟩ rfl rfl rfl rfl rfl (by kernel_rfl) Tryd.func5 (by kernel_rfl)
    (of_decide_eq_true (by kernel_rfl)) (by unfold Func.isWrapper; first | (rw [if_pos (by decide +kernel)]; kernel_rfl) | (rw [if_neg (by decide +kernel)]; exact ⟨rfl, rfl⟩))
    (fun os started H enc _ F => by rw [OpenClaim.pre_eq_preRow]; exact lifted os started H enc F)

theorem plain (f : FuncId) (fn : Func) (hf : Tryd.pinned.checked.prog.funcNamed "portico/porticolaw5.PatternText" = some f) (hfn : Tryd.pinned.checked.prog.funcs[f]? = some fn) :
    false = Tryd.pinned.checked.prog.looks [] ∧ ∀ (j : Nat) t, fn.params[j]? = some t → Tryd.pinned.checked.prog.wantsStandIn t = false := by
  obtain rfl : f = 5 := Option.some.inj ((show Tryd.prog.funcNamed "portico/porticolaw5.PatternText" = some 5 by kernel_rfl).symm.trans hf) |>.symm
  obtain rfl : fn = Tryd.f5 := (Option.some.inj (Tryd.func5.symm.trans hfn)).symm
  refine ⟨by kernel_rfl, fun j t ht => ?_⟩
  rw [Tryd.params5] at ht
  match j with
  | 0 =>
    obtain rfl := Option.some.inj ht
    exact (show Tryd.prog.wantsStandIn 25 = false by kernel_rfl)
  | 1 =>
    obtain rfl := Option.some.inj ht
    exact (show Tryd.prog.wantsStandIn 25 = false by kernel_rfl)
  | 2 =>
    obtain rfl := Option.some.inj ht
    exact (show Tryd.prog.wantsStandIn 22 = false by kernel_rfl)
  | 3 =>
    obtain rfl := Option.some.inj ht
    exact (show Tryd.prog.wantsStandIn 9 = false by kernel_rfl)
  | j + 4 => cases ht

theorem card : Rows.PatternTextCardSaid :=
  Claim7.holds_tied_plain_at .later [] _ _ _ _ said (fun _ h => by cases h) (by kernel_rfl) (fun _ h => by cases h) patternText_row_tie rfl ⟨rfl, rfl⟩ (by kernel_rfl) rfl plain (by kernel_rfl)
end PatternText
end Go.Proofs.YtjlfkpfombdelaaDoor

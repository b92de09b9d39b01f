/- PatternTells: the law answers true, whatever is handed in. It is shown in two parts: the walk (the text that ends in Walk: the functions of the program as typed Lean functions, each proved against the given model), and the pure law about these (the texts that bear Pure). Its closed sentence is one of these functions, and carried out by the kernel; some functions of Go's library are answered by the kit's contracts. The card ties the listed tables to the program's text; it speaks of a pruned copy of the project (the packages that the seat's roots load). No conditions. -/
import Derived.Test.YtjlfkpfombdelaaDoorPartE
import Derived.Test.YtjlfkpfombdelaaDoorRows
import Derived.Test.YtjlfkpfombdelaaDoorCards
import Derived.Test.YtjlfkpfombdelaaDoorTie
import Derived.Test.YtjlfkpfombdelaaDoorCards
import Derived.Test.YtjlfkpfombdelaaDoorTie
import Derived.WalkKit
import Derived.ProofKit
import Derived.OpenShut
import Derived.Carry
import Derived.Deep.DeepHandedRow
import Derived.Lib.LaidIn
import Derived.Lib.LaidU8T
import Derived.Shelf.Vars
import Derived.Deep.DeepHandedRow
import Derived.Lib.LaidIn
import Derived.Lib.LaidU8T
import Derived.Shelf.Vars
namespace Go.Proofs.YtjlfkpfombdelaaDoor
namespace PatternTellsUpto
set_option linter.unusedVariables false
open Go.ChangeShapes Go.WideShapes Go.ChangeAt Go.RowKit

theorem own : ownKnob Tryd.prog.godebug = none := by kernel_rfl

def ren_wb : Go.Shelf.Ren := { f := fun x => bif Nat.beq x 167 then 36 else bif Nat.beq x 240 then 51 else bif Nat.beq x 276 then 66 else x, t := fun x => bif Nat.beq x 70 then 68 else bif Nat.beq x 5 then 5 else bif Nat.beq x 75 then 72 else bif Nat.beq x 0 then 0 else bif Nat.beq x 72 then 70 else bif Nat.beq x 37 then 56 else bif Nat.beq x 4 then 4 else bif Nat.beq x 164 then 99 else bif Nat.beq x 80 then 76 else bif Nat.beq x 9 then 9 else bif Nat.beq x 3 then 3 else bif Nat.beq x 20 then 20 else x, g := fun x => x }
set_option maxRecDepth 100000 in
theorem lay_wb : Go.Proofs.Lays.n167 Tryd.prog ren_wb where
  mixed := by kernel_rfl
  f167 := by kernel_rfl
  f240 := by kernel_rfl
  f276 := by kernel_rfl
  t0 := by kernel_rfl
  a0 := fun w => by kernel_rfl
  z0 := fun w => by kernel_rfl
  v0 := fun w => by kernel_rfl
  t4 := by kernel_rfl
  a4 := fun w => by kernel_rfl
  z4 := fun w => by kernel_rfl
  v4 := fun w => by kernel_rfl
  t5 := by kernel_rfl
  a5 := fun w => by kernel_rfl
  z5 := fun w => by kernel_rfl
  v5 := fun w => by kernel_rfl
  t9 := by kernel_rfl
  a9 := fun w => by kernel_rfl
  z9 := fun w => by kernel_rfl
  v9 := fun w => by kernel_rfl
  t20 := by kernel_rfl
  a20 := fun w => by kernel_rfl
  z20 := fun w => by kernel_rfl
  v20 := fun w => by kernel_rfl
  t37 := by kernel_rfl
  a37 := fun w => by kernel_rfl
  z37 := fun w => by kernel_rfl
  v37 := fun w => by kernel_rfl
  t70 := by kernel_rfl
  a70 := fun w => by kernel_rfl
  z70 := fun w => by kernel_rfl
  v70 := fun w => by kernel_rfl
  t72 := by kernel_rfl
  a72 := fun w => by kernel_rfl
  z72 := fun w => by kernel_rfl
  v72 := fun w => by kernel_rfl
  t75 := by kernel_rfl
  a75 := fun w => by kernel_rfl
  z75 := fun w => by kernel_rfl
  v75 := fun w => by kernel_rfl
  t164 := by kernel_rfl
  a164 := fun w => by kernel_rfl
  z164 := fun w => by kernel_rfl
  v164 := fun w => by kernel_rfl
set_option maxRecDepth 100000 in
theorem ext_wb : Go.Proofs.Builder.Extra Tryd.prog ren_wb where
  sizeBuilder := by kernel_rfl
  liesBuilder := by kernel_rfl
  t5 := by kernel_rfl
  a5 := fun w => by kernel_rfl
  z5 := fun w => by kernel_rfl
  v5 := fun w => by kernel_rfl
  infoByte := by kernel_rfl
  cellsByte := by kernel_rfl
  sizeByte := by kernel_rfl
  neB5 := by show ¬ _ = _; decide
def ren_ws : Go.Shelf.Ren := { f := fun x => bif Nat.beq x 166 then 37 else bif Nat.beq x 240 then 51 else bif Nat.beq x 276 then 66 else x, t := fun x => bif Nat.beq x 70 then 68 else bif Nat.beq x 9 then 9 else bif Nat.beq x 3 then 3 else bif Nat.beq x 75 then 72 else bif Nat.beq x 0 then 0 else bif Nat.beq x 72 then 70 else bif Nat.beq x 37 then 56 else bif Nat.beq x 4 then 4 else bif Nat.beq x 164 then 99 else bif Nat.beq x 80 then 76 else bif Nat.beq x 5 then 5 else bif Nat.beq x 20 then 20 else x, g := fun x => x }
set_option maxRecDepth 100000 in
theorem lay_ws : Go.Proofs.Lays.n166 Tryd.prog ren_ws where
  mixed := by kernel_rfl
  f166 := by kernel_rfl
  f240 := by kernel_rfl
  f276 := by kernel_rfl
  t0 := by kernel_rfl
  a0 := fun w => by kernel_rfl
  z0 := fun w => by kernel_rfl
  v0 := fun w => by kernel_rfl
  t3 := by kernel_rfl
  a3 := fun w => by kernel_rfl
  z3 := fun w => by kernel_rfl
  v3 := fun w => by kernel_rfl
  t4 := by kernel_rfl
  a4 := fun w => by kernel_rfl
  z4 := fun w => by kernel_rfl
  v4 := fun w => by kernel_rfl
  t9 := by kernel_rfl
  a9 := fun w => by kernel_rfl
  z9 := fun w => by kernel_rfl
  v9 := fun w => by kernel_rfl
  t20 := by kernel_rfl
  a20 := fun w => by kernel_rfl
  z20 := fun w => by kernel_rfl
  v20 := fun w => by kernel_rfl
  t37 := by kernel_rfl
  a37 := fun w => by kernel_rfl
  z37 := fun w => by kernel_rfl
  v37 := fun w => by kernel_rfl
  t70 := by kernel_rfl
  a70 := fun w => by kernel_rfl
  z70 := fun w => by kernel_rfl
  v70 := fun w => by kernel_rfl
  t72 := by kernel_rfl
  a72 := fun w => by kernel_rfl
  z72 := fun w => by kernel_rfl
  v72 := fun w => by kernel_rfl
  t75 := by kernel_rfl
  a75 := fun w => by kernel_rfl
  z75 := fun w => by kernel_rfl
  v75 := fun w => by kernel_rfl
  t164 := by kernel_rfl
  a164 := fun w => by kernel_rfl
  z164 := fun w => by kernel_rfl
  v164 := fun w => by kernel_rfl
set_option maxRecDepth 100000 in
theorem ext_ws : Go.Proofs.Builder.Extra Tryd.prog ren_ws where
  sizeBuilder := by kernel_rfl
  liesBuilder := by kernel_rfl
  t5 := by kernel_rfl
  a5 := fun w => by kernel_rfl
  z5 := fun w => by kernel_rfl
  v5 := fun w => by kernel_rfl
  infoByte := by kernel_rfl
  cellsByte := by kernel_rfl
  sizeByte := by kernel_rfl
  neB5 := by show ¬ _ = _; decide
def ren_st : Go.Shelf.Ren := { f := fun x => bif Nat.beq x 169 then 38 else x, t := fun x => bif Nat.beq x 70 then 68 else bif Nat.beq x 9 then 9 else bif Nat.beq x 0 then 0 else bif Nat.beq x 72 then 70 else bif Nat.beq x 37 then 56 else bif Nat.beq x 127 then 88 else bif Nat.beq x 3 then 3 else bif Nat.beq x 5 then 5 else bif Nat.beq x 4 then 4 else bif Nat.beq x 20 then 20 else x, g := fun x => x }
set_option maxRecDepth 100000 in
theorem lay_st : Go.Proofs.Lays.n169 Tryd.prog ren_st where
  mixed := by kernel_rfl
  f169 := by kernel_rfl
  t0 := by kernel_rfl
  a0 := fun w => by kernel_rfl
  z0 := fun w => by kernel_rfl
  v0 := fun w => by kernel_rfl
  t3 := by kernel_rfl
  a3 := fun w => by kernel_rfl
  z3 := fun w => by kernel_rfl
  v3 := fun w => by kernel_rfl
  t9 := by kernel_rfl
  a9 := fun w => by kernel_rfl
  z9 := fun w => by kernel_rfl
  v9 := fun w => by kernel_rfl
  t37 := by kernel_rfl
  a37 := fun w => by kernel_rfl
  z37 := fun w => by kernel_rfl
  v37 := fun w => by kernel_rfl
  t70 := by kernel_rfl
  a70 := fun w => by kernel_rfl
  z70 := fun w => by kernel_rfl
  v70 := fun w => by kernel_rfl
  t72 := by kernel_rfl
  a72 := fun w => by kernel_rfl
  z72 := fun w => by kernel_rfl
  v72 := fun w => by kernel_rfl
  t127 := by kernel_rfl
  a127 := fun w => by kernel_rfl
  z127 := fun w => by kernel_rfl
  v127 := fun w => by kernel_rfl
set_option maxRecDepth 100000 in
theorem ext_st : Go.Proofs.Builder.Extra Tryd.prog ren_st where
  sizeBuilder := by kernel_rfl
  liesBuilder := by kernel_rfl
  t5 := by kernel_rfl
  a5 := fun w => by kernel_rfl
  z5 := fun w => by kernel_rfl
  v5 := fun w => by kernel_rfl
  infoByte := by kernel_rfl
  cellsByte := by kernel_rfl
  sizeByte := by kernel_rfl
  neB5 := by show ¬ _ = _; decide
def ren_trim : Go.Shelf.Ren := { f := fun x => bif Nat.beq x 160 then 49 else bif Nat.beq x 232 then 60 else bif Nat.beq x 231 then 59 else bif Nat.beq x 227 then 61 else bif Nat.beq x 234 then 63 else bif Nat.beq x 233 then 62 else bif Nat.beq x 236 then 65 else bif Nat.beq x 235 then 64 else bif Nat.beq x 228 then 75 else bif Nat.beq x 271 then 78 else bif Nat.beq x 151 then 77 else bif Nat.beq x 197 then 76 else bif Nat.beq x 120 then 87 else bif Nat.beq x 152 then 86 else bif Nat.beq x 260 then 85 else bif Nat.beq x 137 then 72 else bif Nat.beq x 119 then 92 else bif Nat.beq x 224 then 89 else bif Nat.beq x 225 then 88 else bif Nat.beq x 217 then 83 else bif Nat.beq x 266 then 91 else x, t := fun x => bif Nat.beq x 9 then 9 else bif Nat.beq x 4 then 4 else bif Nat.beq x 3 then 3 else bif Nat.beq x 5 then 5 else bif Nat.beq x 117 then 95 else bif Nat.beq x 116 then 94 else bif Nat.beq x 0 then 0 else bif Nat.beq x 124 then 98 else bif Nat.beq x 21 then 21 else bif Nat.beq x 105 then 105 else bif Nat.beq x 46 then 82 else bif Nat.beq x 119 then 112 else bif Nat.beq x 139 then 115 else bif Nat.beq x 138 then 114 else bif Nat.beq x 20 then 20 else bif Nat.beq x 37 then 56 else x, g := fun x => bif Nat.beq x 3 then 1 else bif Nat.beq x 4 then 2 else x }
set_option maxRecDepth 100000 in
theorem lay_trim : Go.Proofs.Lays.n160 Tryd.prog ren_trim where
  mixed := by kernel_rfl
  f119 := by kernel_rfl
  f120 := by kernel_rfl
  f137 := by kernel_rfl
  f151 := by kernel_rfl
  f152 := by kernel_rfl
  f160 := by kernel_rfl
  f197 := by kernel_rfl
  f217 := by kernel_rfl
  f224 := by kernel_rfl
  f225 := by kernel_rfl
  f227 := by kernel_rfl
  f228 := by kernel_rfl
  f231 := by kernel_rfl
  f232 := by kernel_rfl
  f233 := by kernel_rfl
  f234 := by kernel_rfl
  f235 := by kernel_rfl
  f236 := by kernel_rfl
  f260 := by kernel_rfl
  f266 := by kernel_rfl
  f271 := by kernel_rfl
  t0 := by kernel_rfl
  a0 := fun w => by kernel_rfl
  z0 := fun w => by kernel_rfl
  v0 := fun w => by kernel_rfl
  t3 := by kernel_rfl
  a3 := fun w => by kernel_rfl
  z3 := fun w => by kernel_rfl
  v3 := fun w => by kernel_rfl
  t4 := by kernel_rfl
  a4 := fun w => by kernel_rfl
  z4 := fun w => by kernel_rfl
  v4 := fun w => by kernel_rfl
  t5 := by kernel_rfl
  a5 := fun w => by kernel_rfl
  z5 := fun w => by kernel_rfl
  v5 := fun w => by kernel_rfl
  t9 := by kernel_rfl
  a9 := fun w => by kernel_rfl
  z9 := fun w => by kernel_rfl
  v9 := fun w => by kernel_rfl
  t21 := by kernel_rfl
  a21 := fun w => by kernel_rfl
  z21 := fun w => by kernel_rfl
  v21 := fun w => by kernel_rfl
  t46 := by kernel_rfl
  a46 := fun w => by kernel_rfl
  z46 := fun w => by kernel_rfl
  v46 := fun w => by kernel_rfl
  t105 := by kernel_rfl
  a105 := fun w => by kernel_rfl
  z105 := fun w => by kernel_rfl
  v105 := fun w => by kernel_rfl
  t116 := by kernel_rfl
  a116 := fun w => by kernel_rfl
  z116 := fun w => by kernel_rfl
  t117 := by kernel_rfl
  a117 := fun w => by kernel_rfl
  z117 := fun w => by kernel_rfl
  v117 := fun w => by kernel_rfl
  t119 := by kernel_rfl
  a119 := fun w => by kernel_rfl
  z119 := fun w => by kernel_rfl
  t124 := by kernel_rfl
  a124 := fun w => by kernel_rfl
  z124 := fun w => by kernel_rfl
  v124 := fun w => by kernel_rfl
  t138 := by kernel_rfl
  a138 := fun w => by kernel_rfl
  z138 := fun w => by kernel_rfl
  v138 := fun w => by kernel_rfl
  t139 := by kernel_rfl
  a139 := fun w => by kernel_rfl
  z139 := fun w => by kernel_rfl
  v139 := fun w => by kernel_rfl
  g3 := by kernel_rfl
  g4 := by kernel_rfl
theorem h116_trim : (Tryd.prog.info? (ren_trim.t 116)).map (fun i => (i.zero, i.size)) = some (some (.agg (Array.replicate 256 (.bool false))), 256) := by kernel_rfl
def ren_ixb : Go.Shelf.Ren := { f := fun x => bif Nat.beq x 137 then 72 else bif Nat.beq x 217 then 83 else bif Nat.beq x 266 then 91 else x, t := fun x => bif Nat.beq x 9 then 9 else bif Nat.beq x 5 then 5 else bif Nat.beq x 3 then 3 else bif Nat.beq x 0 then 0 else bif Nat.beq x 4 then 4 else bif Nat.beq x 20 then 20 else bif Nat.beq x 37 then 56 else x, g := fun x => x }
set_option maxRecDepth 100000 in
theorem lay_ixb : Go.Proofs.Lays.n137 Tryd.prog ren_ixb where
  mixed := by kernel_rfl
  f137 := by kernel_rfl
  f217 := by kernel_rfl
  f266 := by kernel_rfl
  t3 := by kernel_rfl
  a3 := fun w => by kernel_rfl
  z3 := fun w => by kernel_rfl
  v3 := fun w => by kernel_rfl
  t5 := by kernel_rfl
  a5 := fun w => by kernel_rfl
  z5 := fun w => by kernel_rfl
  v5 := fun w => by kernel_rfl
  t9 := by kernel_rfl
  a9 := fun w => by kernel_rfl
  z9 := fun w => by kernel_rfl
  v9 := fun w => by kernel_rfl
def ren_split : Go.Shelf.Ren := { f := fun x => bif Nat.beq x 146 then 40 else bif Nat.beq x 221 then 53 else bif Nat.beq x 268 then 68 else bif Nat.beq x 138 then 69 else bif Nat.beq x 143 then 70 else bif Nat.beq x 195 then 79 else bif Nat.beq x 197 then 76 else bif Nat.beq x 218 then 80 else bif Nat.beq x 219 then 81 else bif Nat.beq x 260 then 85 else bif Nat.beq x 217 then 83 else bif Nat.beq x 225 then 88 else bif Nat.beq x 224 then 89 else bif Nat.beq x 267 then 90 else bif Nat.beq x 266 then 91 else bif Nat.beq x 314 then 93 else x, t := fun x => bif Nat.beq x 9 then 9 else bif Nat.beq x 31 then 28 else bif Nat.beq x 3 then 3 else bif Nat.beq x 4 then 4 else bif Nat.beq x 0 then 0 else bif Nat.beq x 105 then 105 else bif Nat.beq x 21 then 21 else bif Nat.beq x 5 then 5 else bif Nat.beq x 46 then 82 else bif Nat.beq x 119 then 112 else bif Nat.beq x 139 then 115 else bif Nat.beq x 138 then 114 else bif Nat.beq x 146 then 118 else bif Nat.beq x 51 then 117 else bif Nat.beq x 20 then 20 else bif Nat.beq x 37 then 56 else x, g := fun x => bif Nat.beq x 1 then 0 else bif Nat.beq x 3 then 1 else bif Nat.beq x 4 then 2 else x }
set_option maxRecDepth 100000 in
theorem lay_split : Go.Proofs.Lays.n146 Tryd.prog ren_split where
  mixed := by kernel_rfl
  f138 := by kernel_rfl
  f143 := by kernel_rfl
  f146 := by kernel_rfl
  f195 := by kernel_rfl
  f197 := by kernel_rfl
  f217 := by kernel_rfl
  f218 := by kernel_rfl
  f219 := by kernel_rfl
  f221 := by kernel_rfl
  f224 := by kernel_rfl
  f225 := by kernel_rfl
  f260 := by kernel_rfl
  f266 := by kernel_rfl
  f267 := by kernel_rfl
  f268 := by kernel_rfl
  f314 := by kernel_rfl
  t0 := by kernel_rfl
  a0 := fun w => by kernel_rfl
  z0 := fun w => by kernel_rfl
  v0 := fun w => by kernel_rfl
  t3 := by kernel_rfl
  a3 := fun w => by kernel_rfl
  z3 := fun w => by kernel_rfl
  v3 := fun w => by kernel_rfl
  t4 := by kernel_rfl
  a4 := fun w => by kernel_rfl
  z4 := fun w => by kernel_rfl
  v4 := fun w => by kernel_rfl
  t5 := by kernel_rfl
  a5 := fun w => by kernel_rfl
  z5 := fun w => by kernel_rfl
  v5 := fun w => by kernel_rfl
  t9 := by kernel_rfl
  a9 := fun w => by kernel_rfl
  z9 := fun w => by kernel_rfl
  v9 := fun w => by kernel_rfl
  t21 := by kernel_rfl
  a21 := fun w => by kernel_rfl
  z21 := fun w => by kernel_rfl
  v21 := fun w => by kernel_rfl
  t31 := by kernel_rfl
  a31 := fun w => by kernel_rfl
  z31 := fun w => by kernel_rfl
  v31 := fun w => by kernel_rfl
  t46 := by kernel_rfl
  a46 := fun w => by kernel_rfl
  z46 := fun w => by kernel_rfl
  v46 := fun w => by kernel_rfl
  t51 := by kernel_rfl
  a51 := fun w => by kernel_rfl
  z51 := fun w => by kernel_rfl
  v51 := fun w => by kernel_rfl
  t105 := by kernel_rfl
  a105 := fun w => by kernel_rfl
  z105 := fun w => by kernel_rfl
  v105 := fun w => by kernel_rfl
  t119 := by kernel_rfl
  a119 := fun w => by kernel_rfl
  z119 := fun w => by kernel_rfl
  t138 := by kernel_rfl
  a138 := fun w => by kernel_rfl
  z138 := fun w => by kernel_rfl
  v138 := fun w => by kernel_rfl
  t139 := by kernel_rfl
  a139 := fun w => by kernel_rfl
  z139 := fun w => by kernel_rfl
  v139 := fun w => by kernel_rfl
  t146 := by kernel_rfl
  a146 := fun w => by kernel_rfl
  z146 := fun w => by kernel_rfl
  v146 := fun w => by kernel_rfl
  g1 := by kernel_rfl
  g3 := by kernel_rfl
  g4 := by kernel_rfl
theorem i9_split : (Tryd.prog.info? (ren_split.t 9)).map (fun i => (i.zero, i.size, i.bytes)) = some (some (.string ByteArray.empty), 1, 16) := by kernel_rfl
def ren_join : Go.Shelf.Ren := { f := fun x => bif Nat.beq x 156 then 43 else bif Nat.beq x 165 then 56 else bif Nat.beq x 166 then 37 else bif Nat.beq x 169 then 38 else bif Nat.beq x 240 then 51 else bif Nat.beq x 241 then 73 else bif Nat.beq x 276 then 66 else bif Nat.beq x 277 then 84 else x, t := fun x => bif Nat.beq x 31 then 28 else bif Nat.beq x 9 then 9 else bif Nat.beq x 3 then 3 else bif Nat.beq x 4 then 4 else bif Nat.beq x 0 then 0 else bif Nat.beq x 20 then 20 else bif Nat.beq x 72 then 70 else bif Nat.beq x 76 then 74 else bif Nat.beq x 70 then 68 else bif Nat.beq x 37 then 56 else bif Nat.beq x 75 then 72 else bif Nat.beq x 127 then 88 else bif Nat.beq x 164 then 99 else bif Nat.beq x 5 then 5 else bif Nat.beq x 80 then 76 else x, g := fun x => x }
set_option maxRecDepth 100000 in
theorem lay_join : Go.Proofs.Lays.n156 Tryd.prog ren_join where
  mixed := by kernel_rfl
  f156 := by kernel_rfl
  f165 := by kernel_rfl
  f166 := by kernel_rfl
  f169 := by kernel_rfl
  f240 := by kernel_rfl
  f241 := by kernel_rfl
  f276 := by kernel_rfl
  f277 := by kernel_rfl
  t0 := by kernel_rfl
  a0 := fun w => by kernel_rfl
  z0 := fun w => by kernel_rfl
  v0 := fun w => by kernel_rfl
  t3 := by kernel_rfl
  a3 := fun w => by kernel_rfl
  z3 := fun w => by kernel_rfl
  v3 := fun w => by kernel_rfl
  t4 := by kernel_rfl
  a4 := fun w => by kernel_rfl
  z4 := fun w => by kernel_rfl
  v4 := fun w => by kernel_rfl
  t9 := by kernel_rfl
  a9 := fun w => by kernel_rfl
  z9 := fun w => by kernel_rfl
  v9 := fun w => by kernel_rfl
  t20 := by kernel_rfl
  a20 := fun w => by kernel_rfl
  z20 := fun w => by kernel_rfl
  v20 := fun w => by kernel_rfl
  t31 := by kernel_rfl
  a31 := fun w => by kernel_rfl
  z31 := fun w => by kernel_rfl
  v31 := fun w => by kernel_rfl
  t37 := by kernel_rfl
  a37 := fun w => by kernel_rfl
  z37 := fun w => by kernel_rfl
  v37 := fun w => by kernel_rfl
  t70 := by kernel_rfl
  a70 := fun w => by kernel_rfl
  z70 := fun w => by kernel_rfl
  v70 := fun w => by kernel_rfl
  t72 := by kernel_rfl
  a72 := fun w => by kernel_rfl
  z72 := fun w => by kernel_rfl
  v72 := fun w => by kernel_rfl
  t75 := by kernel_rfl
  a75 := fun w => by kernel_rfl
  z75 := fun w => by kernel_rfl
  v75 := fun w => by kernel_rfl
  t76 := by kernel_rfl
  a76 := fun w => by kernel_rfl
  z76 := fun w => by kernel_rfl
  v76 := fun w => by kernel_rfl
  t127 := by kernel_rfl
  a127 := fun w => by kernel_rfl
  z127 := fun w => by kernel_rfl
  v127 := fun w => by kernel_rfl
  t164 := by kernel_rfl
  a164 := fun w => by kernel_rfl
  z164 := fun w => by kernel_rfl
  v164 := fun w => by kernel_rfl
set_option maxRecDepth 100000 in
theorem ext_join : Go.Proofs.Builder.Extra Tryd.prog ren_join where
  sizeBuilder := by kernel_rfl
  liesBuilder := by kernel_rfl
  t5 := by kernel_rfl
  a5 := fun w => by kernel_rfl
  z5 := fun w => by kernel_rfl
  v5 := fun w => by kernel_rfl
  infoByte := by kernel_rfl
  cellsByte := by kernel_rfl
  sizeByte := by kernel_rfl
  neB5 := by show ¬ _ = _; decide


def goodL : List Nat := List.range 116
def rowsL : List Nat := []
noncomputable def prims : Ev.AL Ev.Prim := [(36, Ev.wh), (37, Ev.wy), (38, Ev.vU), (49, Ev.jy Ev.vz), (72, Ev.jy Ev.xV), (40, Ev.jy Ev.mU), (43, Ev.jy Ev.o7)]
noncomputable def cfg : Ev.gK := Ev.yJ Tryd.prog goodL rowsL prims true 70
def G : World → (Nat → Nat → Prop) → Prop := Ev.Es 0
theorem G_ok : Ev.o9 G := Ev.Fu 0
theorem R_ok : Ev.ObjOk (Ev.uV 70 5 G) := Ev.xW G_ok
theorem prims_ok : Ev.yf (Ev.uV 70 5 G) Tryd.prog prims := ⟨Ev.Fz G_ok lay_wb ext_wb, Ev.Fw G_ok lay_ws ext_ws, Ev.FD G_ok lay_st ext_st, Ev.EJ R_ok lay_trim h116_trim, Ev.ES R_ok lay_ixb, Ev.Ez R_ok lay_split i9_split (fun w fr h => h.1), Ev.EM R_ok lay_join ext_join, trivial⟩
theorem cfg_ok : Ev.FY (Ev.uV 70 5 G) cfg := Ev.Fy G_ok (by kernel_rfl) (by kernel_rfl) (fun _ w => by kernel_rfl) prims_ok


theorem E : Ev.Pr.F4 (Ev.uV 70 5 G) where
  obj := ⟨R_ok, fun t k x h => cfg_ok.obj.new t k x h⟩
  strings_Split_ok := fun n x0 x1 r h => Ev.aY.Gc (Ev.Ez R_ok lay_split i9_split (fun w fr h => h.1)) (Ev.EW h)
  strings_Join_ok := fun n x0 x1 r h => Ev.aY.Gc (Ev.EM R_ok lay_join ext_join) (Ev.Fx h)
  strings_Trim_ok := fun n x0 x1 r h => Ev.aY.Gc (Ev.EJ R_ok lay_trim h116_trim) (by unfold Ev.jP at h; unfold Ev.vz; split at h <;> simp_all)
  strings_IndexByte_ok := fun n x0 x1 r h => Ev.aY.Gc (Ev.ES R_ok lay_ixb) (by unfold Ev.strings_IndexByte at h; cases h; rfl)
  bld := Ev.zf.FW (Ev.Fz G_ok lay_wb ext_wb) (Ev.Fw G_ok lay_ws ext_ws) (Ev.FD G_ok lay_st ext_st)
theorem open_Seg : Ev.kW Tryd.prog 47 Ev.Pr.aJ (fun _ => True) :=
  Ev.kW.struct (tot := 2) (β := Int × Ev.Str × Unit) (enc2 := fun y => ((Ev.D.int .i64) y.1).cells ++ ((Ev.D.str y.2.1).cells ++ ([] : List Ev.D))) Tryd.underlying47 (by kernel_rfl) (Ev.wU.cons (α := Int) (enc := (Ev.D.int .i64)) (enc2 := fun (y : Ev.Str × Unit) => (Ev.D.str y.1).cells ++ (([] : List Ev.D))) (sz := 1) (tot := 1) rfl (by kernel_rfl) (Ev.kW.int Tryd.underlying3) (Ev.wU.cons (α := Ev.Str) (enc := Ev.D.str) (enc2 := fun (y : Unit) => ([] : List Ev.D)) (sz := 1) (tot := 0) rfl (by kernel_rfl) (Ev.kW.str Tryd.underlying9) Ev.wU.nil)) (fun y => ⟨y.1, y.2.1⟩) (fun y => rfl) (fun _ _ => trivial)
theorem cells47 : Tryd.prog.cellsOf 47 = 2 := by kernel_rfl
theorem cells3 : Tryd.prog.cellsOf 3 = 1 := by kernel_rfl
theorem open_K_Pattern : Ev.kW Tryd.prog 25 Ev.Pr.iI (fun _ => True) :=
  Ev.kW.struct (tot := 3) (β := (List Int) × (List Int) × Int × Unit) (enc2 := fun y => ((Ev.FR (Ev.D.int .i64)) y.1).cells ++ (((Ev.FR (Ev.D.int .i64)) y.2.1).cells ++ (((Ev.D.int .i64) y.2.2.1).cells ++ ([] : List Ev.D)))) Tryd.underlying25 (by kernel_rfl) (Ev.wU.cons (α := (List Int)) (enc := (Ev.FR (Ev.D.int .i64))) (enc2 := fun (y : (List Int) × Int × Unit) => ((Ev.FR (Ev.D.int .i64)) y.1).cells ++ (((Ev.D.int .i64) y.2.1).cells ++ (([] : List Ev.D)))) (sz := 1) (tot := 2) rfl (by kernel_rfl) (Ev.kW.slice Tryd.underlying23 (Ev.kW.int Tryd.underlying3) (fun _ => cells3.symm) (by rw [cells3]; decide)) (Ev.wU.cons (α := (List Int)) (enc := (Ev.FR (Ev.D.int .i64))) (enc2 := fun (y : Int × Unit) => ((Ev.D.int .i64) y.1).cells ++ (([] : List Ev.D))) (sz := 1) (tot := 1) rfl (by kernel_rfl) (Ev.kW.slice Tryd.underlying23 (Ev.kW.int Tryd.underlying3) (fun _ => cells3.symm) (by rw [cells3]; decide)) (Ev.wU.cons (α := Int) (enc := (Ev.D.int .i64)) (enc2 := fun (y : Unit) => ([] : List Ev.D)) (sz := 1) (tot := 0) rfl (by kernel_rfl) (Ev.kW.int Tryd.underlying3) Ev.wU.nil))) (fun y => ⟨y.1, y.2.1, y.2.2.1⟩) (fun y => rfl) (fun _ _ => trivial)
theorem open_K_URL : Ev.kW Tryd.prog 27 Ev.Pr.lT (fun _ => True) :=
  Ev.kW.struct (tot := 3) (β := (List Int) × (List Int) × (List Int) × Unit) (enc2 := fun y => ((Ev.FR (Ev.D.int .i64)) y.1).cells ++ (((Ev.FR (Ev.D.int .i64)) y.2.1).cells ++ (((Ev.FR (Ev.D.int .i64)) y.2.2.1).cells ++ ([] : List Ev.D)))) Tryd.underlying27 (by kernel_rfl) (Ev.wU.cons (α := (List Int)) (enc := (Ev.FR (Ev.D.int .i64))) (enc2 := fun (y : (List Int) × (List Int) × Unit) => ((Ev.FR (Ev.D.int .i64)) y.1).cells ++ (((Ev.FR (Ev.D.int .i64)) y.2.1).cells ++ (([] : List Ev.D)))) (sz := 1) (tot := 2) rfl (by kernel_rfl) (Ev.kW.slice Tryd.underlying23 (Ev.kW.int Tryd.underlying3) (fun _ => cells3.symm) (by rw [cells3]; decide)) (Ev.wU.cons (α := (List Int)) (enc := (Ev.FR (Ev.D.int .i64))) (enc2 := fun (y : (List Int) × Unit) => ((Ev.FR (Ev.D.int .i64)) y.1).cells ++ (([] : List Ev.D))) (sz := 1) (tot := 1) rfl (by kernel_rfl) (Ev.kW.slice Tryd.underlying23 (Ev.kW.int Tryd.underlying3) (fun _ => cells3.symm) (by rw [cells3]; decide)) (Ev.wU.cons (α := (List Int)) (enc := (Ev.FR (Ev.D.int .i64))) (enc2 := fun (y : Unit) => ([] : List Ev.D)) (sz := 1) (tot := 0) rfl (by kernel_rfl) (Ev.kW.slice Tryd.underlying23 (Ev.kW.int Tryd.underlying3) (fun _ => cells3.symm) (by rw [cells3]; decide)) Ev.wU.nil))) (fun y => ⟨y.1, y.2.1, y.2.2.1⟩) (fun y => rfl) (fun _ _ => trivial)
theorem cells9 : Tryd.prog.cellsOf 9 = 1 := by kernel_rfl
theorem open_Pair : Ev.kW Tryd.prog 42 Ev.Pr.az (fun _ => True) :=
  Ev.kW.struct (tot := 2) (β := Ev.Str × Ev.Str × Unit) (enc2 := fun y => (Ev.D.str y.1).cells ++ ((Ev.D.str y.2.1).cells ++ ([] : List Ev.D))) Tryd.underlying42 (by kernel_rfl) (Ev.wU.cons (α := Ev.Str) (enc := Ev.D.str) (enc2 := fun (y : Ev.Str × Unit) => (Ev.D.str y.1).cells ++ (([] : List Ev.D))) (sz := 1) (tot := 1) rfl (by kernel_rfl) (Ev.kW.str Tryd.underlying9) (Ev.wU.cons (α := Ev.Str) (enc := Ev.D.str) (enc2 := fun (y : Unit) => ([] : List Ev.D)) (sz := 1) (tot := 0) rfl (by kernel_rfl) (Ev.kW.str Tryd.underlying9) Ev.wU.nil)) (fun y => ⟨y.1, y.2.1⟩) (fun y => rfl) (fun _ _ => trivial)
theorem cells42 : Tryd.prog.cellsOf 42 = 2 := by kernel_rfl
theorem bulk_all {H : Type} : ∀ l : List (DataW H), Rows.uptoBulkAll l = (l.map Rows.uptoBulk).sum
  | [] => rfl
  | d :: l => by rw [Rows.uptoBulkAll, bulk_all l]; rfl
def theBulk : Ev.yw where
  b := Rows.uptoBulk
  str := fun s => by rw [Rows.uptoBulk]; omega
  sl := fun els sp => by rw [Rows.uptoBulk, bulk_all]; omega
  agg := fun ps => by rw [Rows.uptoBulk, bulk_all]; omega
theorem mem_sum {α : Type} (f : α → Nat) : ∀ (l : List α) (x : α), x ∈ l → f x ≤ (l.map f).sum
  | y :: l, x, h => by
    simp only [List.map_cons, List.sum_cons]
    rcases List.mem_cons.1 h with rfl | h
    · omega
    · have := mem_sum f l x h; omega
theorem open_SegB : Ev.pW theBulk Tryd.prog 47 Ev.Pr.aJ (fun _ => True) (fun x => x.Text.length) :=
  Ev.pW.struct (B := theBulk) (tot := 2) (β := Int × Ev.Str × Unit) (enc2 := fun y => ((Ev.D.int .i64) y.1).cells ++ ((Ev.D.str y.2.1).cells ++ ([] : List Ev.D))) Tryd.underlying47 (by kernel_rfl) (Ev.sK.cons (α := Int) (enc := (Ev.D.int .i64)) (enc2 := fun (y : Ev.Str × Unit) => (Ev.D.str y.1).cells ++ (([] : List Ev.D))) (sz := 1) (tot := 1) rfl (by kernel_rfl) (Ev.kW.IC (Ev.kW.int Tryd.underlying3)) (Ev.sK.cons (α := Ev.Str) (enc := Ev.D.str) (enc2 := fun (y : Unit) => ([] : List Ev.D)) (sz := 1) (tot := 0) rfl (by kernel_rfl) (Ev.pW.str Tryd.underlying9) Ev.sK.nil)) (fun y => ⟨y.1, y.2.1⟩) (fun y => rfl) (fun _ _ => trivial) (fun y => by show y.2.1.length ≤ 0 + (y.2.1.length + 0); omega)
theorem open_PairB : Ev.pW theBulk Tryd.prog 42 Ev.Pr.az (fun _ => True) (fun x => x.Value.length) :=
  Ev.pW.struct (B := theBulk) (tot := 2) (β := Ev.Str × Ev.Str × Unit) (enc2 := fun y => (Ev.D.str y.1).cells ++ ((Ev.D.str y.2.1).cells ++ ([] : List Ev.D))) Tryd.underlying42 (by kernel_rfl) (Ev.sK.cons (α := Ev.Str) (enc := Ev.D.str) (enc2 := fun (y : Ev.Str × Unit) => (Ev.D.str y.1).cells ++ (([] : List Ev.D))) (sz := 1) (tot := 1) rfl (by kernel_rfl) (Ev.pW.str Tryd.underlying9) (Ev.sK.cons (α := Ev.Str) (enc := Ev.D.str) (enc2 := fun (y : Unit) => ([] : List Ev.D)) (sz := 1) (tot := 0) rfl (by kernel_rfl) (Ev.pW.str Tryd.underlying9) Ev.sK.nil)) (fun y => ⟨y.1, y.2.1⟩) (fun y => rfl) (fun _ _ => trivial) (fun y => by show y.2.1.length ≤ y.1.length + (y.2.1.length + 0); omega)
theorem spec (x0 : (List Ev.Pr.Seg)) (x1 : Ev.Pr.dF) (x2 : Ev.Pr.iO) (x3 : (List Ev.Str)) (x4 : (List Ev.Pr.aD)) (x5 : Bool) (w0 : ∀ y ∈ x0, y.Text.length ≤ 1048576) (w3 : (x3.map List.length).sum ≤ 1048576) (w4 : ∀ y ∈ x4, y.Value.length ≤ 1048576) : Ev.aY (Ev.uV 70 5 G) Tryd.prog 3 [Ev.D.sl (x0.map Ev.Pr.aJ) false, Ev.Pr.iI x1, Ev.Pr.lT x2, Ev.D.sl (x3.map Ev.D.str) false, Ev.D.sl (x4.map Ev.Pr.az) false, Ev.D.bool x5] (.d (.bool true)) :=
  Ev.Pr.uB E 5000000 x0 x1 x2 x3 x4 x5 true (Ev.Pr.CP x0 x1 x2 x3 x4 x5 w0 w3 w4)
theorem walk (w : World) (hG : G w (fun _ _ => False)) (x0 : (List Ev.Pr.Seg)) (x1 : Ev.Pr.dF) (x2 : Ev.Pr.iO) (x3 : (List Ev.Str)) (x4 : (List Ev.Pr.aD)) (x5 : Bool) (w0 : ∀ y ∈ x0, y.Text.length ≤ 1048576) (w3 : (x3.map List.length).sum ≤ 1048576) (w4 : ∀ y ∈ x4, y.Value.length ≤ 1048576) (v0 v1 v2 v3 v4 v5 : Value) (r0 : Ev.bA w Ev.zL (Ev.D.sl (x0.map Ev.Pr.aJ) false) v0) (r1 : Ev.bA w Ev.zL (Ev.Pr.iI x1) v1) (r2 : Ev.bA w Ev.zL (Ev.Pr.lT x2) v2) (r3 : Ev.bA w Ev.zL (Ev.D.sl (x3.map Ev.D.str) false) v3) (r4 : Ev.bA w Ev.zL (Ev.D.sl (x4.map Ev.Pr.az) false) v4) (r5 : Ev.bA w Ev.zL (Ev.D.bool x5) v5) : Calls Tryd.prog 3 #[v0, v1, v2, v3, v4, v5] w fun e w' => e = .returned (.bool true) ∧ Below w.heap.size w w' :=
  (Ev.Ej R_ok (spec x0 x1 x2 x3 x4 x5 w0 w3 w4) w hG [v0, v1, v2, v3, v4, v5] rfl (fun i y u hy hu => by
    match i, hy, hu with
    | 0, hy, hu => cases hy; cases hu; exact r0
    | 1, hy, hu => cases hy; cases hu; exact r1
    | 2, hy, hu => cases hy; cases hu; exact r2
    | 3, hy, hu => cases hy; cases hu; exact r3
    | 4, hy, hu => cases hy; cases hu; exact r4
    | 5, hy, hu => cases hy; cases hu; exact r5
    | i + 6, hy, hu => cases hy)).mono fun e w' ⟨u, he, hu, hb⟩ => by
    have := hu.val rfl
    cases this
    exact ⟨he, hb⟩

theorem maxLen_of {W : World} (h : W.ShapedOpen Tryd.prog) : Ev.Es 0 W (fun _ _ => False) :=
  ⟨Go.Proofs.cell_of_shapedOpen_int (zero := #[.int .i64 0]) (t := 3) h (of_decide_eq_true (by kernel_rfl)) (by kernel_rfl) rfl (by kernel_rfl) (by kernel_rfl) Tryd.underlying3, fun q => q⟩


section
variable {H : Type} {enc : TypeId × Value → H} {P : Program} {w : World} {base : Nat} {spare : Nat → Bool} {held : Bool}
theorem trodAll_n6 {t0 t1 t2 t3 t4 t5 : TypeId} {args : Array Value} {ds : List (DataW H)} {ps : List MemPlace} (h : DataW.TrodAll enc P w base spare held [t0, t1, t2, t3, t4, t5] args.toList ds ps) :
    ∃ v0 v1 v2 v3 v4 v5 d0 d1 d2 d3 d4 d5 p0 p1 p2 p3 p4 p5, args = #[v0, v1, v2, v3, v4, v5] ∧ ds = [d0, d1, d2, d3, d4, d5] ∧ ps = p0 ++ p1 ++ p2 ++ p3 ++ p4 ++ p5 ∧ DataW.Trod enc P w base spare held t0 v0 d0 p0 ∧ DataW.Trod enc P w base spare held t1 v1 d1 p1 ∧ DataW.Trod enc P w base spare held t2 v2 d2 p2 ∧ DataW.Trod enc P w base spare held t3 v3 d3 p3 ∧ DataW.Trod enc P w base spare held t4 v4 d4 p4 ∧ DataW.Trod enc P w base spare held t5 v5 d5 p5 := by
  obtain ⟨v0, vs0, d0, ds0, p0, q0, hargs, rfl, rfl, hd0, hr0⟩ := trodAll_cons h
  obtain ⟨v1, vs1, d1, ds1, p1, q1, rfl, rfl, rfl, hd1, hr1⟩ := trodAll_cons hr0
  obtain ⟨v2, vs2, d2, ds2, p2, q2, rfl, rfl, rfl, hd2, hr2⟩ := trodAll_cons hr1
  obtain ⟨v3, vs3, d3, ds3, p3, q3, rfl, rfl, rfl, hd3, hr3⟩ := trodAll_cons hr2
  obtain ⟨v4, vs4, d4, ds4, p4, q4, rfl, rfl, rfl, hd4, hr4⟩ := trodAll_cons hr3
  obtain ⟨v5, vs5, d5, ds5, p5, q5, rfl, rfl, rfl, hd5, hr5⟩ := trodAll_cons hr4
  obtain ⟨rfl, rfl, rfl⟩ := trodAll_nil hr5
  exact ⟨v0, v1, v2, v3, v4, v5, d0, d1, d2, d3, d4, d5, p0, p1, p2, p3, p4, p5, by cases args; simp_all, rfl, by simp, hd0, hd1, hd2, hd3, hd4, hd5⟩
theorem trodAll_mkn6 {t0 t1 t2 t3 t4 t5 : TypeId} {v0 v1 v2 v3 v4 v5 : Value} {d0 d1 d2 d3 d4 d5 : DataW H} {p0 p1 p2 p3 p4 p5 : List MemPlace} (h0 : DataW.Trod enc P w base spare held t0 v0 d0 p0) (h1 : DataW.Trod enc P w base spare held t1 v1 d1 p1) (h2 : DataW.Trod enc P w base spare held t2 v2 d2 p2) (h3 : DataW.Trod enc P w base spare held t3 v3 d3 p3) (h4 : DataW.Trod enc P w base spare held t4 v4 d4 p4) (h5 : DataW.Trod enc P w base spare held t5 v5 d5 p5) : DataW.TrodAll enc P w base spare held [t0, t1, t2, t3, t4, t5] [v0, v1, v2, v3, v4, v5] [d0, d1, d2, d3, d4, d5] (p0 ++ (p1 ++ (p2 ++ (p3 ++ (p4 ++ p5))))) := ⟨p0, p1 ++ (p2 ++ (p3 ++ (p4 ++ p5))), h0, ⟨p1, p2 ++ (p3 ++ (p4 ++ p5)), h1, trodAll_mk4 h2 h3 h4 h5, rfl⟩, rfl⟩
end
theorem laidOut : laidOutB Tryd.prog = true := by kernel_rfl
/-- The witness: the settled world, the listed variables holding what their initialisers lay. -/
noncomputable def laidWorld (os : Os) : World :=
  let w0 := World.holding Tryd.prog os ⟨#[], #[.slice none 0 0, .agg #[.slice none 0 0, .slice none 0 0, .int .i64 0], .agg #[.slice none 0 0, .slice none 0 0, .slice none 0 0], .slice none 0 0, .slice none 0 0, .bool false], []⟩
  let put (h : Array Obj) (g : Nat) (cs : Array Value) : Array Obj := h.modify g fun
    | .cells _ t frozen => .cells cs t frozen
    | o => o
  let h1 := put w0.heap 2 ((List.range 16).flatMap fun i => [Value.int .u8 (Lib.accLo i), Value.int .u8 (Lib.accHi i)]).toArray
  let h2 := put h1 1 (Lib.firstTab.map fun z => Value.int .u8 z).toArray
  { w0 with heap := h2 }
theorem laid_met (os : Os) : laidMet Tryd.prog Rows.patternTellsUptoRow.laid ((laidWorld os).forCall (fun _ _ => 0) ⟨#[], #[.slice none 0 0, .agg #[.slice none 0 0, .slice none 0 0, .int .i64 0], .agg #[.slice none 0 0, .slice none 0 0, .slice none 0 0], .slice none 0 0, .slice none 0 0, .bool false], []⟩).memory :=
  (LaidIn.of_run (l := Rows.patternTellsUptoRow.laid) [2, 1] 8 (by kernel_rfl) (by kernel_rfl) (by kernel_rfl) (by kernel_rfl)).met
theorem reads (os : Os) {H : Type} (enc : TypeId × Value → H) : ∃ places, DataW.whole enc Tryd.prog ((laidWorld os).forCall (fun _ _ => 0) ⟨#[], #[.slice none 0 0, .agg #[.slice none 0 0, .slice none 0 0, .int .i64 0], .agg #[.slice none 0 0, .slice none 0 0, .slice none 0 0], .slice none 0 0, .slice none 0 0, .bool false], []⟩).memory Tryd.f3.params.toList Rows.patternTellsSpec.vars false (#[.slice none 0 0, .agg #[.slice none 0 0, .slice none 0 0, .int .i64 0], .agg #[.slice none 0 0, .slice none 0 0, .slice none 0 0], .slice none 0 0, .slice none 0 0, .bool false] : Array Value).toList 8 = some ([.nil, .agg [.nil, .nil, .lit (.int .i64 0)], .agg [.nil, .nil, .nil], .nil, .nil, .lit (.bool false)], [], places) :=
  ⟨[], by kernel_rfl⟩

set_option maxRecDepth 100000 in
theorem lifted (os : Os) (started : os.Started) (H : Type) (enc : TypeId × Value → H) (F : Stop.Interp) :
    ReturnsInHanded {} Tryd.checked os 3 .any ((Rows.OpenSpec.upto Rows.patternTellsSpec).preRow enc Tryd.prog Tryd.f3 Rows.patternTellsUptoRow.domain false Rows.patternTellsUptoRow.laid) (((Rows.OpenSpec.upto Rows.patternTellsSpec).at F).post enc Tryd.prog Tryd.f3 false true false false) := by
  obtain ⟨places, hx⟩ := reads os enc
  refine returnsInHanded_of_row (C := Tryd.checked) (s := Rows.OpenSpec.upto Rows.patternTellsSpec) own started (by kernel_rfl) Tryd.func3
    (witness_row_at (enc := enc) (C := Tryd.checked) false (laidWorld os) #[.slice none 0 0, .agg #[.slice none 0 0, .slice none 0 0, .int .i64 0], .agg #[.slice none 0 0, .slice none 0 0, .slice none 0 0], .slice none 0 0, .slice none 0 0, .bool false] rfl (by kernel_rfl) (by kernel_rfl) (by kernel_rfl)
      (OpenSpec.preRow_of_cond 8 hx (by kernel_rfl) (fun k hk => by cases hk; kernel_rfl) (by kernel_rfl) (laid_met os))) ?_
  intro W base args ds gs before hval hW _ hcond _ hL hsh _
  have hW' := hW
  obtain ⟨p, q, hA0, hV, rfl, hfz, hnd⟩ := hW
  have hlt : ∀ x ∈ p, x.block < W.heap.size := fun x hx => by simpa using hW'.lt x (by simp [hx])
  have hA : DataW.TrodAll enc Tryd.prog W 0 (fun _ => true) true Tryd.f3.params.toList args.toList ds p := hA0
  rw [Tryd.params3] at hA hval
  obtain ⟨v0, v1, v2, v3, v4, v5, d0, d1, d2, d3, d4, d5, p0, p1, p2, p3, p4, p5, rfl, rfl, rfl, h0, h1, h2, h3, h4, h5⟩ := trodAll_n6 hA
  obtain ⟨x0, w0, r0⟩ := Ev.FJ (b0 := 0) (Ev.pW.slice Tryd.underlying22 open_SegB (fun x => (Ev.Pr.Seg.len x).trans cells47.symm) (by rw [cells47]; decide)) (fun _ => rfl) (by obtain ⟨q, ln, cp, rfl⟩ := okWide_slice Tryd.underlying22 (hval 0 _ _ rfl rfl); rfl) h0
  obtain ⟨x1, w1, r1⟩ := Ev.ET Tryd.underlying25 open_K_Pattern Ev.Pr.dF.agg (hval 1 _ _ rfl rfl) h1
  obtain ⟨x2, w2, r2⟩ := Ev.ET Tryd.underlying27 open_K_URL Ev.Pr.iO.agg (hval 2 _ _ rfl rfl) h2
  obtain ⟨x3, w3, r3⟩ := Ev.FJ (b0 := 0) (Ev.pW.slice Tryd.underlying28 (Ev.pW.str (B := theBulk) Tryd.underlying9) (fun _ => cells9.symm) (by rw [cells9]; decide)) (fun _ => rfl) (by obtain ⟨q, ln, cp, rfl⟩ := okWide_slice Tryd.underlying28 (hval 3 _ _ rfl rfl); rfl) h3
  obtain ⟨x4, w4, r4⟩ := Ev.FJ (b0 := 0) (Ev.pW.slice Tryd.underlying29 open_PairB (fun x => (Ev.Pr.aD.len x).trans cells42.symm) (by rw [cells42]; decide)) (fun _ => rfl) (by obtain ⟨q, ln, cp, rfl⟩ := okWide_slice Tryd.underlying29 (hval 4 _ _ rfl rfl); rfl) h4
  obtain ⟨x5, w5, r5⟩ := Ev.Ga (b0 := 0) (Ev.kW.bool Tryd.underlying4) (fun _ => rfl) (by obtain ⟨q, rfl⟩ := okWide_bool Tryd.underlying4 (hval 5 _ _ rfl rfl); rfl) h5
  obtain ⟨rfl, rfl⟩ := trodVars_none hV
  have hc := of_decide_eq_true (hcond _ rfl)
  simp only [List.append_nil, List.cons_append, List.nil_append, Rows.uptoBulkAll] at hc
  have w0 := fun y hy => Nat.le_trans (Nat.le_trans (mem_sum (fun y : Ev.Pr.Seg => y.Text.length) x0 y hy) w0.2) (by show Rows.uptoBulk d0 ≤ 1048576; omega)
  have w3 : (x3.map List.length).sum ≤ 1048576 := Nat.le_trans w3.2 (by show Rows.uptoBulk d3 ≤ 1048576; omega)
  have w4 := fun y hy => Nat.le_trans (Nat.le_trans (mem_sum (fun y : Ev.Pr.aD => y.Value.length) x4 y hy) w4.2) (by show Rows.uptoBulk d4 ≤ 1048576; omega)
  refine (walk W (maxLen_of hsh) x0 x1 x2 x3 x4 x5 w0 w3 w4 v0 v1 v2 v3 v4 v5 r0 r1 r2 r3 r4 r5).mono fun e W' ⟨he, hb⟩ => ?_
  subst he
  exact ⟨_, rfl, _, _, _, _, _, _, hW', trodAll_mk1 (shut_bool (by kernel_rfl) _), trodAll_mkn6 (Below.trod laidOut (by kernel_rfl) (of_decide_eq_true (by kernel_rfl)) h0 hb (fun x hx => hlt x (by simp [hx]))) (Below.trod laidOut (by kernel_rfl) (of_decide_eq_true (by kernel_rfl)) h1 hb (fun x hx => hlt x (by simp [hx]))) (Below.trod laidOut (by kernel_rfl) (of_decide_eq_true (by kernel_rfl)) h2 hb (fun x hx => hlt x (by simp [hx]))) (Below.trod laidOut (by kernel_rfl) (of_decide_eq_true (by kernel_rfl)) h3 hb (fun x hx => hlt x (by simp [hx]))) (Below.trod laidOut (by kernel_rfl) (of_decide_eq_true (by kernel_rfl)) h4 hb (fun x hx => hlt x (by simp [hx]))) (Below.trod laidOut (by kernel_rfl) (of_decide_eq_true (by kernel_rfl)) h5 hb (fun x hx => hlt x (by simp [hx]))), rfl, hb.frame _, fun h => by cases h⟩

theorem said : Rows.PatternTellsUptoSaid :=
  OpenClaim.holds_of_cond 3 Tryd.f3 rfl rfl rfl rfl rfl rfl rfl ⟨rfl, rfl, rfl, rfl, rfl⟩ rfl rfl rfl rfl rfl (by kernel_rfl) Tryd.func3 (by kernel_rfl)
    (of_decide_eq_true (by kernel_rfl)) (by unfold Func.isWrapper; first | (rw [if_pos (by decide +kernel)]; kernel_rfl) | (rw [if_neg (by decide +kernel)]; exact ⟨rfl, rfl⟩))
    (fun os started H enc _ F => by rw [OpenClaim.pre_eq_preRow]; exact lifted os started H enc F)

theorem plain (f : FuncId) (fn : Func) (hf : Tryd.pinned.checked.prog.funcNamed "portico/porticolaw5.PatternTells" = some f) (hfn : Tryd.pinned.checked.prog.funcs[f]? = some fn) :
    false = Tryd.pinned.checked.prog.looks [] ∧ ∀ (j : Nat) t, fn.params[j]? = some t → Tryd.pinned.checked.prog.wantsStandIn t = false := by
  obtain rfl : f = 3 := Option.some.inj ((show Tryd.prog.funcNamed "portico/porticolaw5.PatternTells" = some 3 by kernel_rfl).symm.trans hf) |>.symm
  obtain rfl : fn = Tryd.f3 := (Option.some.inj (Tryd.func3.symm.trans hfn)).symm
  refine ⟨by kernel_rfl, fun j t ht => ?_⟩
  rw [Tryd.params3] at ht
  match j with
  | 0 =>
    obtain rfl := Option.some.inj ht
    exact (show Tryd.prog.wantsStandIn 22 = false by kernel_rfl)
  | 1 =>
    obtain rfl := Option.some.inj ht
    exact (show Tryd.prog.wantsStandIn 25 = false by kernel_rfl)
  | 2 =>
    obtain rfl := Option.some.inj ht
    exact (show Tryd.prog.wantsStandIn 27 = false by kernel_rfl)
  | 3 =>
    obtain rfl := Option.some.inj ht
    exact (show Tryd.prog.wantsStandIn 28 = false by kernel_rfl)
  | 4 =>
    obtain rfl := Option.some.inj ht
    exact (show Tryd.prog.wantsStandIn 29 = false by kernel_rfl)
  | 5 =>
    obtain rfl := Option.some.inj ht
    exact (show Tryd.prog.wantsStandIn 4 = false by kernel_rfl)
  | j + 6 => cases ht

theorem card : Rows.PatternTellsUptoCardSaid :=
  Claim7.holds_tied_plain_at .later [] _ _ _ _ said (fun _ h => by cases h) (by kernel_rfl) (fun _ h => by cases h) patternTellsUpto_row_tie rfl ⟨rfl, rfl⟩ (by kernel_rfl) rfl plain (by kernel_rfl)
end PatternTellsUpto
end Go.Proofs.YtjlfkpfombdelaaDoor

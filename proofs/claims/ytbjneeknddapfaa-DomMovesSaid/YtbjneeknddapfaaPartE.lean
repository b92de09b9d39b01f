import Derived.Test.YtbjneeknddapfaaPartD
import Derived.Test.YtbjneeknddapfaaProg
import Derived.WalkKit
import Derived.ProofKit
import Derived.IntWalk
namespace Go.Ev
namespace Pr
set_option linter.unusedVariables false
set_option linter.unusedSimpArgs false
open Go.Proofs
noncomputable def cfg : Cfg := { P := Try.prog, good := fun _ => true, rowT := fun _ => false, prim := fun _ _ _ => none, objT := fun _ => none, hasPrim := fun _ => false }
noncomputable def cfgR1 : Cfg := { cfg with rowT := fun t => Nat.beq t 31 || Nat.beq t 85 }
noncomputable def cfgR2 : Cfg := { cfg with rowT := fun t => Nat.beq t 31 }
theorem fo90_0 : fieldOf cfg.P 90 0 = some (0, 4) := by kernel_rfl
theorem nz4 : Nat.beq (szOf cfg.P 4) 0 = false := by kernel_rfl
theorem sz4 : szOf cfg.P 4 = 1 := by kernel_rfl
theorem as4 : (aggO cfg.P 4).isSome = true := by kernel_rfl
theorem fo87_1 : fieldOf cfg.P 87 1 = some (1, 31) := by kernel_rfl
theorem nz31 : Nat.beq (szOf cfg.P 31) 0 = false := by kernel_rfl
theorem ag31 : aggO cfg.P 31 = some false := by kernel_rfl
theorem es31 : (elemSl cfg.P 31).isSome = true := by kernel_rfl
theorem hmix : cfg.P.follows .mixedOrders = true := by kernel_rfl
theorem fo87_0 : fieldOf cfg.P 87 0 = some (0, 85) := by kernel_rfl
theorem nz85 : Nat.beq (szOf cfg.P 85) 0 = false := by kernel_rfl
theorem ag85 : aggO cfg.P 85 = some false := by kernel_rfl
theorem ag90 : aggO cfg.P 90 = some true := by kernel_rfl
theorem sz90 : szOf cfg.P 90 = 7 := by kernel_rfl
theorem rw85R1 : cfgR1.rowT 85 = true := by kernel_rfl
theorem el85 : elemSl cfg.P 85 = some 90 := by kernel_rfl
theorem as90 : (aggO cfg.P 90).isSome = true := by kernel_rfl
theorem zo90 : zeroOf cfg.P 90 = some (.agg [.bool false, .str [], .str [], .str [], .nils, .nils, .int .i64 0]) := by kernel_rfl
theorem os85R1 : okSrc cfgR1 85 = true := by kernel_rfl
theorem nb90 : bytesOf cfg.P 90 = 112 := by kernel_rfl
theorem zk90R1 : zeroOk cfgR1 90 = true := by kernel_rfl
theorem sz85 : szOf cfg.P 85 = 1 := by kernel_rfl
theorem as85 : (aggO cfg.P 85).isSome = true := by kernel_rfl
theorem es85 : (elemSl cfg.P 85).isSome = true := by kernel_rfl
theorem el31 : elemSl cfg.P 31 = some 3 := by kernel_rfl
theorem as3 : (aggO cfg.P 3).isSome = true := by kernel_rfl
theorem sz3 : szOf cfg.P 3 = 1 := by kernel_rfl
theorem ag3 : aggO cfg.P 3 = some false := by kernel_rfl
theorem ue31 : (cfg.P.underlying 3).isSome = true := by kernel_rfl
theorem sz31 : szOf cfg.P 31 = 1 := by kernel_rfl
theorem as31 : (aggO cfg.P 31).isSome = true := by kernel_rfl
theorem nm58 : (Try.f58.name == "runtime.NumGoroutine") = false := by kernel_rfl
theorem nm28 : (Try.f28.name == "runtime.NumGoroutine") = false := by kernel_rfl
theorem nm13 : (Try.f13.name == "runtime.NumGoroutine") = false := by kernel_rfl
theorem zo87 : zeroOf cfg.P 87 = some (.agg [.nils, .nils]) := by kernel_rfl
theorem nm12 : (Try.f12.name == "runtime.NumGoroutine") = false := by kernel_rfl
theorem ag4 : aggO cfg.P 4 = some false := by kernel_rfl
theorem nm59 : (Try.f59.name == "runtime.NumGoroutine") = false := by kernel_rfl
theorem fo90_6 : fieldOf cfg.P 90 6 = some (6, 3) := by kernel_rfl
theorem nz3 : Nat.beq (szOf cfg.P 3) 0 = false := by kernel_rfl
theorem nm60 : (Try.f60.name == "runtime.NumGoroutine") = false := by kernel_rfl
theorem nm84 : (Try.f84.name == "runtime.NumGoroutine") = false := by kernel_rfl
theorem os31 : okSrc cfg 31 = true := by kernel_rfl
theorem zo3 : zeroOf cfg.P 3 = some (.int .i64 0) := by kernel_rfl
theorem nm85 : (Try.f85.name == "runtime.NumGoroutine") = false := by kernel_rfl
theorem fo90_5 : fieldOf cfg.P 90 5 = some (5, 31) := by kernel_rfl
theorem nm61 : (Try.f61.name == "runtime.NumGoroutine") = false := by kernel_rfl
theorem up91 : cfg.P.underlying 91 = some (.pointer 90) := by kernel_rfl
theorem fo90_1 : fieldOf cfg.P 90 1 = some (1, 9) := by kernel_rfl
theorem nz9 : Nat.beq (szOf cfg.P 9) 0 = false := by kernel_rfl
theorem ag9 : aggO cfg.P 9 = some false := by kernel_rfl
theorem rw31R2 : cfgR2.rowT 31 = true := by kernel_rfl
theorem nm14 : (Try.f14.name == "runtime.NumGoroutine") = false := by kernel_rfl
theorem ob90 : cfg.objT 90 = none := by kernel_rfl
theorem rw31 : cfg.rowT 31 = false := by kernel_rfl
theorem nb3 : bytesOf cfg.P 3 = 8 := by kernel_rfl
theorem zk3 : zeroOk cfg 3 = true := by kernel_rfl
theorem nm18 : (Try.f18.name == "runtime.NumGoroutine") = false := by kernel_rfl
theorem nm64 : (Try.f64.name == "runtime.NumGoroutine") = false := by kernel_rfl
theorem us31s : cfg.P.underlying 31 = some (.slice 3) := by kernel_rfl
theorem bs31xR2 : asRow cfgR2 31 0 = false := by kernel_rfl
theorem os31R2 : okSrc cfgR2 31 = true := by kernel_rfl
theorem zk3R2 : zeroOk cfgR2 3 = true := by kernel_rfl
theorem nm19 : (Try.f19.name == "runtime.NumGoroutine") = false := by kernel_rfl
theorem nm20 : (Try.f20.name == "runtime.NumGoroutine") = false := by kernel_rfl
theorem nm22 : (Try.f22.name == "runtime.NumGoroutine") = false := by kernel_rfl
theorem nm24 : (Try.f24.name == "runtime.NumGoroutine") = false := by kernel_rfl
theorem nm25 : (Try.f25.name == "runtime.NumGoroutine") = false := by kernel_rfl
theorem up23 : cfg.P.underlying 23 = some (.pointer 87) := by kernel_rfl
theorem us3 : (cfg.P.underlying 3).isSome = true := by kernel_rfl
theorem it5 : intT cfg.P 5 = some .u8 := by kernel_rfl
theorem rw44 : cfg.rowT 44 = false := by kernel_rfl
theorem el44 : elemSl cfg.P 44 = some 5 := by kernel_rfl
theorem ag5 : aggO cfg.P 5 = some false := by kernel_rfl
theorem zo5 : zeroOf cfg.P 5 = some (.int .u8 0) := by kernel_rfl
theorem sz5 : szOf cfg.P 5 = 1 := by kernel_rfl
theorem bs44 : byteSl cfg 44 = true := by kernel_rfl
theorem st9 : strT cfg.P 9 = true := by kernel_rfl
theorem nm4 : (Try.f4.name == "runtime.NumGoroutine") = false := by kernel_rfl
theorem place_struct90 : oper.P_place cfg 90 = some (placeL [(0, 1), (1, 1), (2, 1), (3, 1), (4, 1), (5, 1), (6, 1)]) := placeL_of (by kernel_rfl)
theorem place_struct87 : oper.P_place cfg 87 = some (placeL [(0, 1), (1, 1)]) := placeL_of (by kernel_rfl)
/-- What is asked of the world and of the library. -/
structure PrOk (R : ObjR) : Prop where
  obj : ObjOkC R cfg
  porticolaw12_DomRuns_ok : ∀ (n : Nat) (r : Bool), porticolaw12_DomRuns n = some r → SpecC R cfg.P 23 [] (.d (.bool r))
  insp : PrimOk R cfg.P 62 insPrim
section
variable {R : ObjR} (E : PrOk R)
include E
theorem objR1 : ObjOkC R cfgR1 := ⟨E.obj.toObjOk, E.obj.new⟩
theorem objR2 : ObjOkC R cfgR2 := ⟨E.obj.toObjOk, E.obj.new⟩
set_option maxRecDepth 20000 in
set_option maxHeartbeats 4000000 in
theorem dom_Dom_put_ok (n : Nat) (a2 : dom_Dom) (a6 : dom_node0) (r : (Int × dom_Dom)) (h : dom_Dom_put n a2 a6 = some r) (b1 : Nat) (v3 : AV) (ws4 : List (List AV)) (w5 : AV) : SpecM R cfg.P 58 [.ptr b1 0 0, .d (encdom_node0 a6)] [.box b1 [v3, w5], nestA encdom_node dom_node.kids 7 5 v3 ws4 a2.l none, slkA w5 a2.freed] (fun v l => v = .d (.int .i64 r.1) ∧ ∃ dv0 dws0 dw0, l = [.box b1 [dv0, dw0], nestA encdom_node dom_node.kids 7 5 dv0 dws0 r.2.l none, slkA dw0 r.2.freed]) := by
  unfold dom_Dom_put at h
  refine SpecM.of_wp (C := cfgR1) Try.func58 rfl nm58 rfl (fun B0 S0 H0 => ?_)
  replace H0 : Has B0 S0 [.box b1 [v3, w5], nestA encdom_node dom_node.kids 7 5 v3 ws4 a2.l none, slkA w5 a2.freed] := H0
  refine WpC.seq ?_
  refine WpC.region (objR1 E) rfl ?_
  refine wpO.box H0 rfl rfl rfl (dom_node0.cellsA _) rfl (fun b7 S8 H9 => ?_)
  refine wpO.val rfl (oper_assign rfl) rfl ?_
  refine wpO.nil ?_
  refine WpC.seq ?_
  refine WpC.region (objR1 E) rfl ?_
  refine wpO.val rfl (oper_fieldAddr rfl fo90_0 nz4 rfl) rfl ?_
  refine wpO.store H9 (i := 0) rfl rfl rfl rfl rfl rfl sz4 rfl as4 rfl rfl rfl (fun S10 H11 => ?_)
  refine wpO.nil ?_
  refine WpC.seq ?_
  refine WpC.region (objR1 E) rfl ?_
  refine wpO.val rfl (oper_move rfl) rfl ?_
  refine wpO.val rfl (oper_nilCheck rfl) rfl ?_
  refine wpO.val rfl (oper_fieldAddr rfl fo87_1 nz31 rfl) rfl ?_
  refine wpO.val rfl (oper_load H11 (i := 1) rfl rfl (part_one ag31 rfl)) rfl ?_
  refine wpO.val rfl (oper_lenS H11 (i := 3) rfl rfl es31) rfl ?_
  refine wpO.val rfl (oper_bin rfl rfl binD_sub) rfl ?_
  refine wpO.val rfl (oper_assign rfl) rfl ?_
  refine wpO.nil ?_
  refine WpC.seq ?_
  refine WpC.seq ?_
  refine WpC.region (objR1 E) rfl ?_
  refine wpO.val rfl (oper_move rfl) rfl ?_
  refine wpO.val rfl (oper_bin rfl rfl binD_lss) rfl ?_
  refine wpO.nil ?_
  refine WpC.cond rfl (fun hb12 => ?_) (fun hb12 => ?_)
  ·
    replace h := if_t hb12 h
    refine WpC.seq ?_
    obtain ⟨z17, hzz17, h⟩ := bind_some h
    refine WpC.drawP (objR1 E) hmix [[(0, none)], [(0, none)], [(17, some 1)], [(18, some 2)], [(19, some 3)], [(3, none)], [(21, some 5)], [(20, some 4), (22, some 6)], [(16, some 0)], [(24, some 8)], [(23, some 7), (25, some 9)]] [(0, none)] (by kernel_rfl) [6, 7, 10] (by decide) [some (.ptr b1 0 0), some (.ptr b1 0 0), some (.ptr b1 0 0), some (.ptr b1 0 0), some v3, some (.d (encdom_node0 (dom_node0.mk true a6.tag a6.key a6.text a6.attrs a6.parent))), none, none, none, none, none] ?_
    refine ⟨[0, 1, 2, 3, 4, 5], by kernel_rfl, ?_, _, _, rfl, rfl, .step ?_⟩
    ·
      refine .cons rfl rfl rfl (.step ?_) ?_
      ·
        refine wpO.val rfl (oper_move rfl) rfl ?_
        exact wpO.nil ⟨_, _, rfl, fun _ ht => by cases ht; exact ⟨rfl, .refl _⟩⟩
      refine .cons rfl rfl rfl (.step ?_) ?_
      ·
        refine wpO.val rfl (oper_move rfl) rfl ?_
        exact wpO.nil ⟨_, _, rfl, fun _ ht => by cases ht; exact ⟨rfl, .refl _⟩⟩
      refine .cons rfl rfl rfl (.step ?_) ?_
      ·
        refine wpO.val rfl (oper_nilCheck rfl) rfl ?_
        exact wpO.nil ⟨_, _, rfl, fun _ ht => by cases ht; exact ⟨rfl, .refl _⟩⟩
      refine .cons rfl rfl rfl (.step ?_) ?_
      ·
        refine wpO.val rfl (oper_fieldAddr rfl fo87_0 nz85 rfl) rfl ?_
        exact wpO.nil ⟨_, _, rfl, fun _ ht => by cases ht; exact ⟨rfl, .refl _⟩⟩
      refine .cons rfl rfl rfl (.step ?_) ?_
      ·
        refine wpO.val rfl (oper_load H11 (i := 1) rfl rfl (part_one ag85 rfl)) rfl ?_
        exact wpO.nil ⟨_, _, rfl, fun _ ht => by cases ht; exact ⟨rfl, .refl _⟩⟩
      refine .cons rfl rfl rfl (.step ?_) ?_
      ·
        refine wpO.val rfl (oper_load H11 (i := 0) rfl rfl (part_agg ag90 sz90 rfl)) rfl ?_
        refine wpO.less (Less.agg' (d := encdom_node0 (dom_node0.mk true a6.tag a6.key a6.text a6.attrs a6.parent)) (CellsC.eq rfl (CellsC.eq rfl (CellsC.eq rfl (CellsC.eq rfl (CellsC.eq rfl (CellsC.eq rfl (CellsC.eq rfl .nil))))))) ((dom_node0.eq _).trans rfl)) ?_
        exact wpO.nil ⟨_, _, rfl, fun _ ht => by cases ht; exact ⟨rfl, .refl _⟩⟩
      exact .nil
    refine wpO.rawBuild (vs := [(.d (encdom_node0 (dom_node0.mk true a6.tag a6.key a6.text a6.attrs a6.parent)))]) (cs := [[(.d (.bool (dom_node0.mk true a6.tag a6.key a6.text a6.attrs a6.parent).lives)), (.d (.str (dom_node0.mk true a6.tag a6.key a6.text a6.attrs a6.parent).tag)), (.d (.str (dom_node0.mk true a6.tag a6.key a6.text a6.attrs a6.parent).key)), (.d (.str (dom_node0.mk true a6.tag a6.key a6.text a6.attrs a6.parent).text)), (.d (.sl (((dom_node0.mk true a6.tag a6.key a6.text a6.attrs a6.parent).attrs).map encAttr) false)), (.d .nils), (.d (.int .i64 (dom_node0.mk true a6.tag a6.key a6.text a6.attrs a6.parent).parent))]]) H11 rfl rw85R1 el85 as90 zo90 sz90 rfl (by decide) (.cons (cellsP_d (dom_node0.cellsA _)) rfl .nil) rfl rfl rfl (fun v26 S27 H28 => ?_)
    have H29 : Has B0 S27 [rawA 7 1 v26 [(.d (.bool (dom_node0.mk true a6.tag a6.key a6.text a6.attrs a6.parent).lives)), (.d (.str (dom_node0.mk true a6.tag a6.key a6.text a6.attrs a6.parent).tag)), (.d (.str (dom_node0.mk true a6.tag a6.key a6.text a6.attrs a6.parent).key)), (.d (.str (dom_node0.mk true a6.tag a6.key a6.text a6.attrs a6.parent).text)), (.d (.sl (((dom_node0.mk true a6.tag a6.key a6.text a6.attrs a6.parent).attrs).map encAttr) false)), (.d .nils), (.d (.int .i64 (dom_node0.mk true a6.tag a6.key a6.text a6.attrs a6.parent).parent))], .box b7 [(.d (.bool true)), (.d (.str a6.tag)), (.d (.str a6.key)), (.d (.str a6.text)), (.d (.sl ((a6.attrs).map encAttr) false)), (.d .nils), (.d (.int .i64 a6.parent))], .box b1 [v3, w5], nestA encdom_node dom_node.kids 7 5 v3 ws4 a2.l none, slkA w5 a2.freed] := H28.sel [0, 1, 2, 3, 4] (by decide) rfl
    refine wpO.nil ⟨_, _, _, rfl, (fun _ ht => by cases ht; rfl), [some (.ptr b1 0 0), some (.ptr b1 0 0), some (.ptr b1 0 0), some (.ptr b1 0 0), some v3, some (.d (encdom_node0 (dom_node0.mk true a6.tag a6.key a6.text a6.attrs a6.parent))), some v26, none, none, none, none], (.old (.refl _) (.old (.refl _) (.old (.refl _) (.old (.refl _) (.old (.refl _) (.old (.refl _) (.new (.new (.new (.new (.new .nil))))))))))), (fun _ ht => by cases ht; exact ⟨_, rfl, .refl _⟩), ?_⟩
    refine ⟨[0, 1, 2, 3, 4], by kernel_rfl, ?_, _, _, rfl, rfl, .step ?_⟩
    ·
      refine .cons rfl rfl rfl (.step ?_) ?_
      ·
        refine wpO.val rfl (oper_move rfl) rfl ?_
        exact wpO.nil ⟨_, _, rfl, fun _ ht => by cases ht; exact ⟨rfl, .refl _⟩⟩
      refine .cons rfl rfl rfl (.step ?_) ?_
      ·
        refine wpO.val rfl (oper_move rfl) rfl ?_
        exact wpO.nil ⟨_, _, rfl, fun _ ht => by cases ht; exact ⟨rfl, .refl _⟩⟩
      refine .cons rfl rfl rfl (.step ?_) ?_
      ·
        refine wpO.val rfl (oper_nilCheck rfl) rfl ?_
        exact wpO.nil ⟨_, _, rfl, fun _ ht => by cases ht; exact ⟨rfl, .refl _⟩⟩
      refine .cons rfl rfl rfl (.step ?_) ?_
      ·
        refine wpO.val rfl (oper_fieldAddr rfl fo87_0 nz85 rfl) rfl ?_
        exact wpO.nil ⟨_, _, rfl, fun _ ht => by cases ht; exact ⟨rfl, .refl _⟩⟩
      refine .cons rfl rfl rfl (.step ?_) ?_
      ·
        refine wpO.val rfl (oper_load H29 (i := 2) rfl rfl (part_one ag85 rfl)) rfl ?_
        exact wpO.nil ⟨_, _, rfl, fun _ ht => by cases ht; exact ⟨rfl, .refl _⟩⟩
      exact .nil
    have H30 : Has B0 S27 ([rawA 7 1 v26 [(.d (.bool (dom_node0.mk true a6.tag a6.key a6.text a6.attrs a6.parent).lives)), (.d (.str (dom_node0.mk true a6.tag a6.key a6.text a6.attrs a6.parent).tag)), (.d (.str (dom_node0.mk true a6.tag a6.key a6.text a6.attrs a6.parent).key)), (.d (.str (dom_node0.mk true a6.tag a6.key a6.text a6.attrs a6.parent).text)), (.d (.sl (((dom_node0.mk true a6.tag a6.key a6.text a6.attrs a6.parent).attrs).map encAttr) false)), (.d .nils), (.d (.int .i64 (dom_node0.mk true a6.tag a6.key a6.text a6.attrs a6.parent).parent))], nestA encdom_node dom_node.kids 7 5 v3 ws4 a2.l none] ++ [.box b7 [(.d (.bool true)), (.d (.str a6.tag)), (.d (.str a6.key)), (.d (.str a6.text)), (.d (.sl ((a6.attrs).map encAttr) false)), (.d .nils), (.d (.int .i64 a6.parent))], .box b1 [v3, w5], slkA w5 a2.freed]) := H29.sel [0, 3, 1, 2, 4] (by decide) rfl
    replace H30 : Has B0 S27 [rawA 7 1 v26 [(.d (.bool (dom_node0.mk true a6.tag a6.key a6.text a6.attrs a6.parent).lives)), (.d (.str (dom_node0.mk true a6.tag a6.key a6.text a6.attrs a6.parent).tag)), (.d (.str (dom_node0.mk true a6.tag a6.key a6.text a6.attrs a6.parent).key)), (.d (.str (dom_node0.mk true a6.tag a6.key a6.text a6.attrs a6.parent).text)), (.d (.sl (((dom_node0.mk true a6.tag a6.key a6.text a6.attrs a6.parent).attrs).map encAttr) false)), (.d .nils), (.d (.int .i64 (dom_node0.mk true a6.tag a6.key a6.text a6.attrs a6.parent).parent))], nestA encdom_node dom_node.kids 7 5 v3 ws4 a2.l none, .box b7 [(.d (.bool true)), (.d (.str a6.tag)), (.d (.str a6.key)), (.d (.str a6.text)), (.d (.sl ((a6.attrs).map encAttr) false)), (.d .nils), (.d (.int .i64 a6.parent))], .box b1 [v3, w5], slkA w5 a2.freed] := H30
    refine wpO.nestAppend (z := (dom_node.mk (dom_node0.mk true a6.tag a6.key a6.text a6.attrs a6.parent).lives (dom_node0.mk true a6.tag a6.key a6.text a6.attrs a6.parent).tag (dom_node0.mk true a6.tag a6.key a6.text a6.attrs a6.parent).key (dom_node0.mk true a6.tag a6.key a6.text a6.attrs a6.parent).text (dom_node0.mk true a6.tag a6.key a6.text a6.attrs a6.parent).attrs [] (dom_node0.mk true a6.tag a6.key a6.text a6.attrs a6.parent).parent)) H30 rfl rfl rfl rw85R1 os85R1 el85 sz90 hzz17 nb90 rfl zk90R1 ⟨rfl, rfl, rfl, (.cons (.refl _) (.cons (.refl _) (.cons (.refl _) (.cons (.refl _) (.cons (.refl _) (.cons (Less.any _) (.cons (.refl _) .nil)))))))⟩ rfl rfl rfl (fun v31 ws32 S33 H34 => ?_)
    have H35 : Has B0 S33 [.box b7 [(.d (.bool true)), (.d (.str a6.tag)), (.d (.str a6.key)), (.d (.str a6.text)), (.d (.sl ((a6.attrs).map encAttr) false)), (.d .nils), (.d (.int .i64 a6.parent))], .box b1 [v3, w5], nestA encdom_node dom_node.kids 7 5 v31 ws32 z17 none, slkA w5 a2.freed] := H34.sel [1, 2, 0, 3] (by decide) rfl
    refine wpO.nil ⟨_, _, _, rfl, (fun _ ht => by cases ht; rfl), [some (.ptr b1 0 0), some (.ptr b1 0 0), some (.ptr b1 0 0), some (.ptr b1 0 0), some v3, some (.d (encdom_node0 (dom_node0.mk true a6.tag a6.key a6.text a6.attrs a6.parent))), some v26, some v31, some (.ptr b1 0 0), some (.ptr b1 0 0), none], (.old (.refl _) (.old (.refl _) (.old (.refl _) (.old (.refl _) (.old (.refl _) (.old (.refl _) (.old (.refl _) (.new (.new (.new (.new .nil))))))))))), (fun _ ht => by cases ht; exact ⟨_, rfl, .refl _⟩), ?_⟩
    refine ⟨[0, 8, 9], by kernel_rfl, ?_, _, _, rfl, rfl, .step ?_⟩
    ·
      refine .cons rfl rfl rfl (.step ?_) ?_
      ·
        refine wpO.val rfl (oper_move rfl) rfl ?_
        exact wpO.nil ⟨_, _, rfl, fun _ ht => by cases ht; exact ⟨rfl, .refl _⟩⟩
      refine .cons rfl rfl rfl (.step ?_) ?_
      ·
        refine wpO.val rfl (oper_nilCheck rfl) rfl ?_
        exact wpO.nil ⟨_, _, rfl, fun _ ht => by cases ht; exact ⟨rfl, .refl _⟩⟩
      refine .cons rfl rfl rfl (.step ?_) ?_
      ·
        refine wpO.val rfl (oper_fieldAddr rfl fo87_0 nz85 rfl) rfl ?_
        exact wpO.nil ⟨_, _, rfl, fun _ ht => by cases ht; exact ⟨rfl, .refl _⟩⟩
      exact .nil
    refine wpO.store H35 (i := 1) rfl rfl rfl rfl (nest_plain H35 (i := 2) rfl).2 rfl sz85 (nest_plain H35 (i := 2) rfl).1 as85 rfl rfl rfl (fun S36 H37 => ?_)
    refine wpO.nil ⟨_, .any, _, rfl, (fun _ ht => by cases ht), [some (.ptr b1 0 0), some (.ptr b1 0 0), some (.ptr b1 0 0), some (.ptr b1 0 0), some v3, some (.d (encdom_node0 (dom_node0.mk true a6.tag a6.key a6.text a6.attrs a6.parent))), some v26, some v31, some (.ptr b1 0 0), some (.ptr b1 0 0), some .any], (.old (.refl _) (.old (.refl _) (.old (.refl _) (.old (.refl _) (.old (.refl _) (.old (.refl _) (.old (.refl _) (.old (.refl _) (.old (.refl _) (.old (.refl _) (.new .nil))))))))))), (fun _ ht => by cases ht), ?_⟩
    refine ⟨[], by kernel_rfl, ?_, _, rfl, ?_⟩
    ·
      exact .nil
    refine WpC.seq ?_
    refine WpC.region (objR1 E) rfl ?_
    refine wpO.val rfl (oper_move rfl) rfl ?_
    refine wpO.val rfl (oper_nilCheck rfl) rfl ?_
    refine wpO.val rfl (oper_fieldAddr rfl fo87_0 nz85 rfl) rfl ?_
    refine wpO.val rfl (oper_load H37 (i := 1) rfl rfl (part_one ag85 rfl)) rfl ?_
    refine wpO.val rfl (oper_lenN H37 (i := 2) rfl rfl es85) rfl ?_
    refine wpO.val rfl (oper_assign rfl) rfl ?_
    refine wpO.nil ?_
    have hr := Option.some.inj h
    subst hr
    exact WpC.ret ⟨_, rfl, rfl, _, _, _, .refl _, (.refl _), ⟨rfl, v31, ws32, w5, rfl⟩, H37.sel [1, 2, 3] (by decide) rfl⟩
  ·
    replace h := if_f hb12 h
    refine WpC.skip ?_
    refine WpC.seq ?_
    refine WpC.region (objR1 E) rfl ?_
    refine wpO.val rfl (oper_move rfl) rfl ?_
    refine wpO.val rfl (oper_nilCheck rfl) rfl ?_
    refine wpO.val rfl (oper_fieldAddr rfl fo87_1 nz31 rfl) rfl ?_
    refine wpO.val rfl (oper_load H11 (i := 1) rfl rfl (part_one ag31 rfl)) rfl ?_
    refine wpO.val rfl (oper_move rfl) rfl ?_
    obtain ⟨z38, hzz38, h⟩ := bind_some h
    refine wpO.val rfl (oper_slkIdx H11 (q := 3) rfl hzz38 rfl rfl el31 as3 sz3) rfl ?_
    refine wpO.val rfl (oper_slkLoad H11 (q := 3) rfl hzz38 rfl ag3) rfl ?_
    refine wpO.val rfl (oper_assign rfl) rfl ?_
    refine wpO.nil ?_
    refine WpC.seq ?_
    refine WpC.region (objR1 E) rfl ?_
    refine wpO.val rfl (oper_move rfl) rfl ?_
    refine wpO.val rfl (oper_move rfl) rfl ?_
    refine wpO.val rfl (oper_nilCheck rfl) rfl ?_
    refine wpO.val rfl (oper_fieldAddr rfl fo87_1 nz31 rfl) rfl ?_
    refine wpO.val rfl (oper_load H11 (i := 1) rfl rfl (part_one ag31 rfl)) rfl ?_
    refine wpO.val rfl (oper_move rfl) rfl ?_
    obtain ⟨z39, hzz39, h⟩ := bind_some h
    have H40 : Has B0 S10 ([slkA w5 a2.freed] ++ [.box b7 [(.d (.bool true)), (.d (.str a6.tag)), (.d (.str a6.key)), (.d (.str a6.text)), (.d (.sl ((a6.attrs).map encAttr) false)), (.d .nils), (.d (.int .i64 a6.parent))], .box b1 [v3, w5], nestA encdom_node dom_node.kids 7 5 v3 ws4 a2.l none]) := H11.sel [3, 0, 1, 2] (by decide) rfl
    replace H40 : Has B0 S10 [slkA w5 a2.freed, .box b7 [(.d (.bool true)), (.d (.str a6.tag)), (.d (.str a6.key)), (.d (.str a6.text)), (.d (.sl ((a6.attrs).map encAttr) false)), (.d .nils), (.d (.int .i64 a6.parent))], .box b1 [v3, w5], nestA encdom_node dom_node.kids 7 5 v3 ws4 a2.l none] := H40
    refine wpO.slkCut H40 rfl rfl rfl el31 ue31 sz3 hzz39 rfl (fun w41 H42 => ?_)
    have H43 : Has B0 S10 [.box b7 [(.d (.bool true)), (.d (.str a6.tag)), (.d (.str a6.key)), (.d (.str a6.text)), (.d (.sl ((a6.attrs).map encAttr) false)), (.d .nils), (.d (.int .i64 a6.parent))], .box b1 [v3, w5], nestA encdom_node dom_node.kids 7 5 v3 ws4 a2.l none, slkA w41 z39] := H42.sel [1, 2, 3, 0] (by decide) rfl
    refine wpO.val rfl (oper_nilCheck rfl) rfl ?_
    refine wpO.val rfl (oper_fieldAddr rfl fo87_1 nz31 rfl) rfl ?_
    refine wpO.store H43 (i := 1) rfl rfl rfl rfl (slk_plain H43 (i := 3) rfl).2 rfl sz31 (slk_plain H43 (i := 3) rfl).1 as31 rfl rfl rfl (fun S44 H45 => ?_)
    refine wpO.nil ?_
    refine WpC.seq ?_
    obtain ⟨z46, hzz46, h⟩ := bind_some h
    refine WpC.drawP (objR1 E) hmix [[(0, none)], [(47, some 0)], [(48, some 1)], [(49, some 2)], [(6, none)], [(51, some 4)], [(3, none)], [(50, some 3), (52, some 5)], [(53, some 6), (54, some 7)]] [(6, none)] (by kernel_rfl) [8] (by decide) [some (.ptr b1 0 0), some (.ptr b1 0 0), some (.ptr b1 0 0), some v3, some (.d (.int .i64 z38)), some (.d (.int .i64 (IntKind.wrap .i64 (z38 - 1)))), some (.d (encdom_node0 (dom_node0.mk true a6.tag a6.key a6.text a6.attrs a6.parent))), some (rowPtr v3 (Int.toNat (IntKind.wrap .i64 (z38 - 1))) 0), none] ?_
    refine ⟨[0, 1, 2, 3, 4, 5, 6, 7], by kernel_rfl, ?_, _, _, rfl, rfl, .step ?_⟩
    ·
      refine .cons rfl rfl rfl (.step ?_) ?_
      ·
        refine wpO.val rfl (oper_move rfl) rfl ?_
        exact wpO.nil ⟨_, _, rfl, fun _ ht => by cases ht; exact ⟨rfl, .refl _⟩⟩
      refine .cons rfl rfl rfl (.step ?_) ?_
      ·
        refine wpO.val rfl (oper_nilCheck rfl) rfl ?_
        exact wpO.nil ⟨_, _, rfl, fun _ ht => by cases ht; exact ⟨rfl, .refl _⟩⟩
      refine .cons rfl rfl rfl (.step ?_) ?_
      ·
        refine wpO.val rfl (oper_fieldAddr rfl fo87_0 nz85 rfl) rfl ?_
        exact wpO.nil ⟨_, _, rfl, fun _ ht => by cases ht; exact ⟨rfl, .refl _⟩⟩
      refine .cons rfl rfl rfl (.step ?_) ?_
      ·
        refine wpO.val rfl (oper_load H45 (i := 1) rfl rfl (part_one ag85 rfl)) rfl ?_
        exact wpO.nil ⟨_, _, rfl, fun _ ht => by cases ht; exact ⟨rfl, .refl _⟩⟩
      refine .cons rfl rfl rfl (.step ?_) ?_
      ·
        refine wpO.val rfl (oper_move rfl) rfl ?_
        exact wpO.nil ⟨_, _, rfl, fun _ ht => by cases ht; exact ⟨rfl, .refl _⟩⟩
      refine .cons rfl rfl rfl (.step ?_) ?_
      ·
        refine wpO.val rfl (oper_bin rfl rfl binD_sub) rfl ?_
        exact wpO.nil ⟨_, _, rfl, fun _ ht => by cases ht; exact ⟨rfl, .refl _⟩⟩
      refine .cons rfl rfl rfl (.step ?_) ?_
      ·
        refine wpO.val rfl (oper_load H45 (i := 0) rfl rfl (part_agg ag90 sz90 rfl)) rfl ?_
        refine wpO.less (Less.agg' (d := encdom_node0 (dom_node0.mk true a6.tag a6.key a6.text a6.attrs a6.parent)) (CellsC.eq rfl (CellsC.eq rfl (CellsC.eq rfl (CellsC.eq rfl (CellsC.eq rfl (CellsC.eq rfl (CellsC.eq rfl .nil))))))) ((dom_node0.eq _).trans rfl)) ?_
        exact wpO.nil ⟨_, _, rfl, fun _ ht => by cases ht; exact ⟨rfl, .refl _⟩⟩
      refine .cons rfl rfl rfl (.step ?_) ?_
      ·
        refine wpO.val rfl (oper_nestIdx H45 (i := 2) rfl hzz46 rfl rfl el85 as90 sz90) rfl ?_
        exact wpO.nil ⟨_, _, rfl, fun _ ht => by cases ht; exact ⟨rfl, .refl _⟩⟩
      exact .nil
    have H55 : Has B0 S44 ([nestA encdom_node dom_node.kids 7 5 v3 ws4 a2.l none] ++ [.box b7 [(.d (.bool true)), (.d (.str a6.tag)), (.d (.str a6.key)), (.d (.str a6.text)), (.d (.sl ((a6.attrs).map encAttr) false)), (.d .nils), (.d (.int .i64 a6.parent))], .box b1 [v3, w41], slkA w41 z39]) := H45.sel [2, 0, 1, 3] (by decide) rfl
    replace H55 : Has B0 S44 [nestA encdom_node dom_node.kids 7 5 v3 ws4 a2.l none, .box b7 [(.d (.bool true)), (.d (.str a6.tag)), (.d (.str a6.key)), (.d (.str a6.text)), (.d (.sl ((a6.attrs).map encAttr) false)), (.d .nils), (.d (.int .i64 a6.parent))], .box b1 [v3, w41], slkA w41 z39] := H55
    refine wpO.nestStoreW (z' := (dom_node.mk (dom_node0.mk true a6.tag a6.key a6.text a6.attrs a6.parent).lives (dom_node0.mk true a6.tag a6.key a6.text a6.attrs a6.parent).tag (dom_node0.mk true a6.tag a6.key a6.text a6.attrs a6.parent).key (dom_node0.mk true a6.tag a6.key a6.text a6.attrs a6.parent).text (dom_node0.mk true a6.tag a6.key a6.text a6.attrs a6.parent).attrs [] (dom_node0.mk true a6.tag a6.key a6.text a6.attrs a6.parent).parent)) H55 rfl hzz46 (.inl rfl) rfl rfl (dom_node0.cellsA _) rfl sz90 as90 rfl rfl rfl (.cons (.refl _) (.cons (.refl _) (.cons (.refl _) (.cons (.refl _) (.cons (.refl _) (.cons (Less.any _) (.cons (.refl _) .nil))))))) rfl rfl (fun ws54 S52 H53 => ?_)
    have H56 : Has B0 S52 [.box b7 [(.d (.bool true)), (.d (.str a6.tag)), (.d (.str a6.key)), (.d (.str a6.text)), (.d (.sl ((a6.attrs).map encAttr) false)), (.d .nils), (.d (.int .i64 a6.parent))], .box b1 [v3, w41], nestA encdom_node dom_node.kids 7 5 v3 ws54 (setI a2.l (IntKind.wrap .i64 (z38 - 1)) (dom_node.mk (dom_node0.mk true a6.tag a6.key a6.text a6.attrs a6.parent).lives (dom_node0.mk true a6.tag a6.key a6.text a6.attrs a6.parent).tag (dom_node0.mk true a6.tag a6.key a6.text a6.attrs a6.parent).key (dom_node0.mk true a6.tag a6.key a6.text a6.attrs a6.parent).text (dom_node0.mk true a6.tag a6.key a6.text a6.attrs a6.parent).attrs [] (dom_node0.mk true a6.tag a6.key a6.text a6.attrs a6.parent).parent)) none, slkA w41 z39] := H53.sel [1, 2, 0, 3] (by decide) rfl
    refine wpO.nil ⟨_, .any, _, rfl, (fun _ ht => by cases ht), [some (.ptr b1 0 0), some (.ptr b1 0 0), some (.ptr b1 0 0), some v3, some (.d (.int .i64 z38)), some (.d (.int .i64 (IntKind.wrap .i64 (z38 - 1)))), some (.d (encdom_node0 (dom_node0.mk true a6.tag a6.key a6.text a6.attrs a6.parent))), some (rowPtr v3 (Int.toNat (IntKind.wrap .i64 (z38 - 1))) 0), some .any], (.old (.refl _) (.old (.refl _) (.old (.refl _) (.old (.refl _) (.old (.refl _) (.old (.refl _) (.old (.refl _) (.old (.refl _) (.new .nil))))))))), (fun _ ht => by cases ht), ?_⟩
    refine ⟨[], by kernel_rfl, ?_, _, rfl, ?_⟩
    ·
      exact .nil
    refine WpC.seq ?_
    refine WpC.region (objR1 E) rfl ?_
    refine wpO.val rfl (oper_move rfl) rfl ?_
    refine wpO.val rfl (oper_assign rfl) rfl ?_
    refine wpO.nil ?_
    have hr := Option.some.inj h
    subst hr
    exact WpC.ret ⟨_, rfl, rfl, _, _, _, .refl _, (.refl _), ⟨rfl, v3, ws54, w41, rfl⟩, H56.sel [1, 2, 3] (by decide) rfl⟩
set_option maxRecDepth 20000 in
set_option maxHeartbeats 4000000 in
theorem dom_Dom_Text_ok (n : Nat) (a2 : dom_Dom) (a6 : Str) (r : (Int × dom_Dom)) (h : dom_Dom_Text n a2 a6 = some r) (b1 : Nat) (v3 : AV) (ws4 : List (List AV)) (w5 : AV) : SpecM R cfg.P 28 [.ptr b1 0 0, .d (.str a6)] [.box b1 [v3, w5], nestA encdom_node dom_node.kids 7 5 v3 ws4 a2.l none, slkA w5 a2.freed] (fun v l => v = .d (.int .i64 r.1) ∧ ∃ dv0 dws0 dw0, l = [.box b1 [dv0, dw0], nestA encdom_node dom_node.kids 7 5 dv0 dws0 r.2.l none, slkA dw0 r.2.freed]) := by
  unfold dom_Dom_Text at h
  refine SpecM.of_wp (C := cfg) Try.func28 rfl nm28 rfl (fun B0 S0 H0 => ?_)
  replace H0 : Has B0 S0 [.box b1 [v3, w5], nestA encdom_node dom_node.kids 7 5 v3 ws4 a2.l none, slkA w5 a2.freed] := H0
  refine WpC.seq ?_
  refine WpC.region E.obj rfl ?_
  refine wpO.val rfl (oper_assign rfl) rfl ?_
  refine wpO.nil ?_
  refine WpC.seq ?_
  refine WpC.region E.obj rfl ?_
  refine wpO.val rfl (oper_move rfl) rfl ?_
  refine wpO.val rfl (oper_move rfl) rfl ?_
  refine wpO.val rfl (oper_build (cs := [(.d (.bool false)), (.d (.str [])), (.d (.str [])), (.d (.str a6)), (.d .nils), (.d .nils), (.d (.int .i64 0))]) zo90 rfl (place_struct90) (fill1 rfl rfl rfl rfl rfl)) rfl ?_
  refine wpO.less (Less.agg' (d := encdom_node0 (dom_node0.mk false [] [] a6 [] 0)) (CellsC.eq rfl (CellsC.eq rfl (CellsC.eq rfl (CellsC.eq rfl (CellsC.consW rfl (.nils false) rfl rfl (CellsC.eq rfl (CellsC.eq rfl .nil))))))) ((dom_node0.eq _).trans rfl)) ?_
  obtain ⟨z7, hzz7, h⟩ := bind_some h
  refine wpO.retM (ins := [.box b1 [v3, w5], nestA encdom_node dom_node.kids 7 5 v3 ws4 a2.l none, slkA w5 a2.freed]) (more := []) (H0.sel [0, 1, 2] (by decide) rfl) rfl (oper_callF rfl rfl) (dom_Dom_put_ok E n _ _ _ hzz7 b1 v3 ws4 w5) (.cons (.refl _) (.cons (.refl _) .nil)) rfl ?_
  rintro _ S11 _ ⟨rfl, v8, ws9, w10, rfl⟩ H12
  replace H12 : Has B0 S11 [.box b1 [v8, w10], nestA encdom_node dom_node.kids 7 5 v8 ws9 z7.2.l none, slkA w10 z7.2.freed] := H12
  have H13 : Has B0 S11 [.box b1 [v8, w10], nestA encdom_node dom_node.kids 7 5 v8 ws9 z7.2.l none, slkA w10 z7.2.freed] := H12.sel [0, 1, 2] (by decide) rfl
  refine wpO.val rfl (oper_assign rfl) rfl ?_
  refine wpO.nil ?_
  have hr := Option.some.inj h
  subst hr
  exact WpC.ret ⟨_, rfl, rfl, _, _, _, .refl _, (.refl _), ⟨rfl, v8, ws9, w10, rfl⟩, H13.sel [0, 1, 2] (by decide) rfl⟩
set_option maxRecDepth 20000 in
set_option maxHeartbeats 4000000 in
theorem dom_Dom_Element_ok (n : Nat) (a2 : dom_Dom) (a6 : Str) (a7 : Str) (r : (Int × dom_Dom)) (h : dom_Dom_Element n a2 a6 a7 = some r) (b1 : Nat) (v3 : AV) (ws4 : List (List AV)) (w5 : AV) : SpecM R cfg.P 13 [.ptr b1 0 0, .d (.str a6), .d (.str a7)] [.box b1 [v3, w5], nestA encdom_node dom_node.kids 7 5 v3 ws4 a2.l none, slkA w5 a2.freed] (fun v l => v = .d (.int .i64 r.1) ∧ ∃ dv0 dws0 dw0, l = [.box b1 [dv0, dw0], nestA encdom_node dom_node.kids 7 5 dv0 dws0 r.2.l none, slkA dw0 r.2.freed]) := by
  unfold dom_Dom_Element at h
  refine SpecM.of_wp (C := cfg) Try.func13 rfl nm13 rfl (fun B0 S0 H0 => ?_)
  replace H0 : Has B0 S0 [.box b1 [v3, w5], nestA encdom_node dom_node.kids 7 5 v3 ws4 a2.l none, slkA w5 a2.freed] := H0
  refine WpC.seq ?_
  refine WpC.region E.obj rfl ?_
  refine wpO.val rfl (oper_assign rfl) rfl ?_
  refine wpO.nil ?_
  refine WpC.seq ?_
  refine WpC.seq ?_
  refine WpC.region E.obj rfl ?_
  refine wpO.val rfl (oper_move rfl) rfl ?_
  refine wpO.val rfl (oper_bin rfl rfl binD_seql) rfl ?_
  refine wpO.nil ?_
  refine WpC.cond rfl (fun hb8 => ?_) (fun hb8 => ?_)
  ·
    replace h := if_t hb8 h
    refine WpC.seq ?_
    refine WpC.region E.obj rfl ?_
    refine wpO.val rfl (oper_move rfl) rfl ?_
    obtain ⟨z9, hzz9, h⟩ := bind_some h
    refine wpO.retM (ins := [.box b1 [v3, w5], nestA encdom_node dom_node.kids 7 5 v3 ws4 a2.l none, slkA w5 a2.freed]) (more := []) (H0.sel [0, 1, 2] (by decide) rfl) rfl (oper_callF rfl rfl) (dom_Dom_Text_ok E n _ _ _ hzz9 b1 v3 ws4 w5) (.cons (.refl _) (.cons (.refl _) .nil)) rfl ?_
    rintro _ S13 _ ⟨rfl, v10, ws11, w12, rfl⟩ H14
    replace H14 : Has B0 S13 [.box b1 [v10, w12], nestA encdom_node dom_node.kids 7 5 v10 ws11 z9.2.l none, slkA w12 z9.2.freed] := H14
    have H15 : Has B0 S13 [.box b1 [v10, w12], nestA encdom_node dom_node.kids 7 5 v10 ws11 z9.2.l none, slkA w12 z9.2.freed] := H14.sel [0, 1, 2] (by decide) rfl
    refine wpO.val rfl (oper_assign rfl) rfl ?_
    refine wpO.nil ?_
    have hr := Option.some.inj h
    subst hr
    exact WpC.ret ⟨_, rfl, rfl, _, _, _, .refl _, (.refl _), ⟨rfl, v10, ws11, w12, rfl⟩, H15.sel [0, 1, 2] (by decide) rfl⟩
  ·
    replace h := if_f hb8 h
    refine WpC.skip ?_
    refine WpC.seq ?_
    refine WpC.region E.obj rfl ?_
    refine wpO.val rfl (oper_move rfl) rfl ?_
    refine wpO.val rfl (oper_move rfl) rfl ?_
    refine wpO.val rfl (oper_move rfl) rfl ?_
    refine wpO.val rfl (oper_build (cs := [(.d (.bool false)), (.d (.str a6)), (.d (.str a7)), (.d (.str [])), (.d .nils), (.d .nils), (.d (.int .i64 0))]) zo90 rfl (place_struct90) (fill1 rfl rfl rfl rfl (fill1 rfl rfl rfl rfl rfl))) rfl ?_
    refine wpO.less (Less.agg' (d := encdom_node0 (dom_node0.mk false a6 a7 [] [] 0)) (CellsC.eq rfl (CellsC.eq rfl (CellsC.eq rfl (CellsC.eq rfl (CellsC.consW rfl (.nils false) rfl rfl (CellsC.eq rfl (CellsC.eq rfl .nil))))))) ((dom_node0.eq _).trans rfl)) ?_
    obtain ⟨z16, hzz16, h⟩ := bind_some h
    refine wpO.retM (ins := [.box b1 [v3, w5], nestA encdom_node dom_node.kids 7 5 v3 ws4 a2.l none, slkA w5 a2.freed]) (more := []) (H0.sel [0, 1, 2] (by decide) rfl) rfl (oper_callF rfl rfl) (dom_Dom_put_ok E n _ _ _ hzz16 b1 v3 ws4 w5) (.cons (.refl _) (.cons (.refl _) .nil)) rfl ?_
    rintro _ S20 _ ⟨rfl, v17, ws18, w19, rfl⟩ H21
    replace H21 : Has B0 S20 [.box b1 [v17, w19], nestA encdom_node dom_node.kids 7 5 v17 ws18 z16.2.l none, slkA w19 z16.2.freed] := H21
    have H22 : Has B0 S20 [.box b1 [v17, w19], nestA encdom_node dom_node.kids 7 5 v17 ws18 z16.2.l none, slkA w19 z16.2.freed] := H21.sel [0, 1, 2] (by decide) rfl
    refine wpO.val rfl (oper_assign rfl) rfl ?_
    refine wpO.nil ?_
    have hr := Option.some.inj h
    subst hr
    exact WpC.ret ⟨_, rfl, rfl, _, _, _, .refl _, (.refl _), ⟨rfl, v17, ws18, w19, rfl⟩, H22.sel [0, 1, 2] (by decide) rfl⟩
set_option maxRecDepth 20000 in
set_option maxHeartbeats 4000000 in
theorem dom_New_ok (n : Nat)  (r : (Option dom_Dom)) (h : dom_New n  = some r) : SpecM R cfg.P 12 [] [] (fun v l => match r with | none => v = .d .nilp ∧ l = [] | some x => ∃ b dv dws dw, v = .ptr b 0 0 ∧ l = [] ++ [.box b [dv, dw], nestA encdom_node dom_node.kids 7 5 dv dws x.l none, slkA dw x.freed]) := by
  unfold dom_New at h
  refine SpecM.of_wp (C := cfg) Try.func12 rfl nm12 rfl (fun B0 S0 H0 => ?_)
  replace H0 : Has B0 S0 [] := H0
  refine WpC.seq ?_
  refine WpC.region E.obj rfl ?_
  refine wpO.val rfl (oper_assign rfl) rfl ?_
  refine wpO.nil ?_
  refine WpC.seq ?_
  refine WpC.region E.obj rfl ?_
  refine wpO.val rfl (oper_build (cs := [(.d .nils), (.d .nils)]) zo87 rfl (place_struct87) rfl) rfl ?_
  refine wpO.box H0 rfl rfl rfl rfl rfl (fun b1 S2 H3 => ?_)
  have H4 := H3.slkNil
  have H5 := Has.nestNil encdom_node dom_node.kids 7 5 rfl H4
  have H6 : Has B0 S2 [.box b1 [(.d .nils), (.d .nils)], nestA encdom_node dom_node.kids 7 5 (.d .nils) [] [] none, slkA (.d .nils) []] := H5.sel [2, 0, 1] (by decide) rfl
  refine wpO.val rfl (oper_assign rfl) rfl ?_
  refine wpO.nil ?_
  refine WpC.seq ?_
  refine WpC.region E.obj rfl ?_
  refine wpO.val rfl (oper_move rfl) rfl ?_
  obtain ⟨z7, hzz7, h⟩ := bind_some h
  refine wpO.retM (ins := [.box b1 [(.d .nils), (.d .nils)], nestA encdom_node dom_node.kids 7 5 (.d .nils) [] [] none, slkA (.d .nils) []]) (more := []) (H6.sel [0, 1, 2] (by decide) rfl) rfl (oper_callF rfl rfl) (dom_Dom_Element_ok E n _ _ _ _ hzz7 b1 (.d .nils) [] (.d .nils)) (.cons (.refl _) (.cons (.refl _) (.cons (.refl _) .nil))) rfl ?_
  rintro _ S11 _ ⟨rfl, v8, ws9, w10, rfl⟩ H12
  replace H12 : Has B0 S11 [.box b1 [v8, w10], nestA encdom_node dom_node.kids 7 5 v8 ws9 z7.2.l none, slkA w10 z7.2.freed] := H12
  have H13 : Has B0 S11 [.box b1 [v8, w10], nestA encdom_node dom_node.kids 7 5 v8 ws9 z7.2.l none, slkA w10 z7.2.freed] := H12.sel [0, 1, 2] (by decide) rfl
  refine wpO.nil ?_
  refine WpC.seq ?_
  refine WpC.region E.obj rfl ?_
  refine wpO.val rfl (oper_move rfl) rfl ?_
  refine wpO.val rfl (oper_assign rfl) rfl ?_
  refine wpO.nil ?_
  have hr := Option.some.inj h
  subst hr
  exact WpC.ret ⟨_, rfl, rfl, _, _, _, .refl _, (.refl _), ⟨_, v8, ws9, w10, rfl, rfl⟩, H13.sel [0, 1, 2] (by decide) rfl⟩
set_option maxRecDepth 20000 in
set_option maxHeartbeats 4000000 in
theorem dom_Dom_at_ok (n : Nat) (a2 : dom_Dom) (a6 : Int) (r : Bool) (h : dom_Dom_at n a2 a6 = some r) (b1 : Nat) (v3 : AV) (ws4 : List (List AV)) (w5 : AV) : SpecM R cfg.P 59 [.ptr b1 0 0, .d (.int .i64 a6)] [.box b1 [v3, w5], nestA encdom_node dom_node.kids 7 5 v3 ws4 a2.l none, slkA w5 a2.freed] (fun v l => v = (bif r then rowPtr v3 (Int.toNat (IntKind.wrap .i64 (a6 - 1))) 0 else .d .nilp) ∧ l = [.box b1 [v3, w5], nestA encdom_node dom_node.kids 7 5 v3 ws4 a2.l none, slkA w5 a2.freed]) := by
  unfold dom_Dom_at at h
  refine SpecM.of_wp (C := cfg) Try.func59 rfl nm59 rfl (fun B0 S0 H0 => ?_)
  replace H0 : Has B0 S0 [.box b1 [v3, w5], nestA encdom_node dom_node.kids 7 5 v3 ws4 a2.l none, slkA w5 a2.freed] := H0
  refine WpC.seq ?_
  refine WpC.region E.obj rfl ?_
  refine wpO.val rfl (oper_assign rfl) rfl ?_
  refine wpO.nil ?_
  refine WpC.seq ?_
  refine WpC.seq ?_
  refine WpC.region E.obj rfl ?_
  refine wpO.val rfl (oper_move rfl) rfl ?_
  refine wpO.val rfl (oper_bin rfl rfl binD_lss) rfl ?_
  refine wpO.val rfl (oper_move rfl) rfl ?_
  refine wpO.groupV 8 15 (.d (.bool ((decide (a6 < 1)) || (decide (((a2.l).length : Int) < a6))))) ?_ ?_
  ·
    rcases Bool.eq_false_or_eq_true ((decide (a6 < 1))) with hB7 | hB7
    ·
      refine wpO.bool hB7 ?_
      refine wpO.no rfl rfl ?_
      refine wpO.no rfl rfl ?_
      refine wpO.no rfl rfl ?_
      refine wpO.no rfl rfl ?_
      refine wpO.no rfl rfl ?_
      refine wpO.no rfl rfl ?_
      refine wpO.no rfl rfl ?_
      refine wpO.val rfl (oper_pick (b := true) rfl rfl) rfl ?_
      exact wpO.nil ⟨_, rfl, (WeakE.put (WeakE.push rfl (WeakE.push rfl (WeakE.push rfl (WeakE.push rfl (WeakE.push rfl (WeakE.push rfl (WeakE.push rfl (WeakE.put (.refl _) (Less.eq (by rw [hB7])))))))))) (Less.eq (by rw [hB7]; rw [Bool.true_or])))⟩
    ·
      refine wpO.bool hB7 ?_
      refine wpO.val rfl (oper_move rfl) rfl ?_
      refine wpO.val rfl (oper_move rfl) rfl ?_
      refine wpO.val rfl (oper_nilCheck rfl) rfl ?_
      refine wpO.val rfl (oper_fieldAddr rfl fo87_0 nz85 rfl) rfl ?_
      refine wpO.val rfl (oper_load H0 (i := 0) rfl rfl (part_one ag85 rfl)) rfl ?_
      refine wpO.val rfl (oper_lenN H0 (i := 1) rfl rfl es85) rfl ?_
      refine wpO.val rfl (oper_bin rfl rfl binD_gtr) rfl ?_
      refine wpO.val rfl (oper_pick (b := false) rfl rfl) rfl ?_
      exact wpO.nil ⟨_, rfl, (WeakE.put (WeakE.push rfl (WeakE.push rfl (WeakE.push rfl (WeakE.push rfl (WeakE.push rfl (WeakE.push rfl (WeakE.push rfl (WeakE.put (.refl _) (Less.eq (by rw [hB7])))))))))) (Less.eq (by rw [hB7]; rw [Bool.false_or])))⟩
  ·
    refine wpO.val rfl (oper_move rfl) rfl ?_
    obtain ⟨z9, hzz9, h⟩ := bind_some h
    refine wpO.groupV 11 27 (.d (.bool z9)) ?_ ?_
    ·
      rcases Bool.eq_false_or_eq_true (((decide (a6 < 1)) || (decide (((a2.l).length : Int) < a6)))) with hB8 | hB8
      ·
        refine wpO.bool hB8 ?_
        refine wpO.no rfl rfl ?_
        refine wpO.no rfl rfl ?_
        refine wpO.no rfl rfl ?_
        refine wpO.no rfl rfl ?_
        refine wpO.no rfl rfl ?_
        refine wpO.no rfl rfl ?_
        refine wpO.no rfl rfl ?_
        refine wpO.no rfl rfl ?_
        refine wpO.no rfl rfl ?_
        refine wpO.no rfl rfl ?_
        refine wpO.val rfl (oper_pick (b := true) rfl rfl) rfl ?_
        replace hzz9 := if_t hB8 hzz9
        cases hzz9
        exact wpO.nil ⟨_, rfl, (WeakE.put (WeakE.push rfl (WeakE.push rfl (WeakE.push rfl (WeakE.push rfl (WeakE.push rfl (WeakE.push rfl (WeakE.push rfl (WeakE.push rfl (WeakE.push rfl (WeakE.push rfl (WeakE.put (.refl _) (Less.eq (by rw [hB8]))))))))))))) (.refl _))⟩
      ·
        refine wpO.bool hB8 ?_
        replace hzz9 := if_f hB8 hzz9
        refine wpO.val rfl (oper_move rfl) rfl ?_
        refine wpO.val rfl (oper_nilCheck rfl) rfl ?_
        refine wpO.val rfl (oper_fieldAddr rfl fo87_0 nz85 rfl) rfl ?_
        refine wpO.val rfl (oper_load H0 (i := 0) rfl rfl (part_one ag85 rfl)) rfl ?_
        refine wpO.val rfl (oper_move rfl) rfl ?_
        refine wpO.val rfl (oper_bin rfl rfl binD_sub) rfl ?_
        obtain ⟨z10, hzz10, hzz9⟩ := bind_some hzz9
        refine wpO.val rfl (oper_nestIdx H0 (i := 1) rfl hzz10 rfl rfl el85 as90 sz90) rfl ?_
        refine wpO.val rfl (oper_nestField H0 (i := 1) rfl hzz10 rfl fo90_0 nz4 rfl) rfl ?_
        refine wpO.nestLoadF H0 rfl (q := 1) rfl hzz10 rfl ag4 rfl rfl rfl ?_
        refine wpO.val rfl (oper_not rfl) rfl ?_
        refine wpO.val rfl (oper_pick (b := false) rfl rfl) rfl ?_
        cases hzz9
        exact wpO.nil ⟨_, rfl, (WeakE.put (WeakE.push rfl (WeakE.push rfl (WeakE.push rfl (WeakE.push rfl (WeakE.push rfl (WeakE.push rfl (WeakE.push rfl (WeakE.push rfl (WeakE.push rfl (WeakE.push rfl (WeakE.put (.refl _) (Less.eq (by rw [hB8]))))))))))))) (.refl _))⟩
    ·
      refine wpO.nil ?_
      refine WpC.cond rfl (fun hb11 => ?_) (fun hb11 => ?_)
      ·
        replace h := if_t hb11 h
        refine WpC.seq ?_
        refine WpC.region E.obj rfl ?_
        refine wpO.val rfl (oper_assign rfl) rfl ?_
        refine wpO.nil ?_
        have hr := Option.some.inj h
        subst hr
        exact WpC.ret ⟨_, rfl, rfl, _, _, _, .refl _, (.refl _), ⟨rfl, rfl⟩, H0.sel [0, 1, 2] (by decide) rfl⟩
      ·
        replace h := if_f hb11 h
        refine WpC.skip ?_
        refine WpC.seq ?_
        refine WpC.region E.obj rfl ?_
        refine wpO.val rfl (oper_move rfl) rfl ?_
        refine wpO.val rfl (oper_nilCheck rfl) rfl ?_
        refine wpO.val rfl (oper_fieldAddr rfl fo87_0 nz85 rfl) rfl ?_
        refine wpO.val rfl (oper_load H0 (i := 0) rfl rfl (part_one ag85 rfl)) rfl ?_
        refine wpO.val rfl (oper_move rfl) rfl ?_
        refine wpO.val rfl (oper_bin rfl rfl binD_sub) rfl ?_
        obtain ⟨z12, hzz12, h⟩ := bind_some h
        refine wpO.val rfl (oper_nestIdx H0 (i := 1) rfl hzz12 rfl rfl el85 as90 sz90) rfl ?_
        refine wpO.val rfl (oper_assign rfl) rfl ?_
        refine wpO.nil ?_
        have hr := Option.some.inj h
        subst hr
        exact WpC.ret ⟨_, rfl, rfl, _, _, _, .refl _, (.refl _), ⟨rfl, rfl⟩, H0.sel [0, 1, 2] (by decide) rfl⟩
set_option maxRecDepth 20000 in
set_option maxHeartbeats 4000000 in
theorem dom_Dom_within_ok (n : Nat) (a2 : dom_Dom) (a6 : Int) (a7 : Int) (r : Bool) (h : dom_Dom_within n a2 a6 a7 = some r) (b1 : Nat) (v3 : AV) (ws4 : List (List AV)) (w5 : AV) : SpecM R cfg.P 60 [.ptr b1 0 0, .d (.int .i64 a6), .d (.int .i64 a7)] [.box b1 [v3, w5], nestA encdom_node dom_node.kids 7 5 v3 ws4 a2.l none, slkA w5 a2.freed] (fun v l => v = .d (.bool r) ∧ l = [.box b1 [v3, w5], nestA encdom_node dom_node.kids 7 5 v3 ws4 a2.l none, slkA w5 a2.freed]) := by
  unfold dom_Dom_within at h
  refine SpecM.of_wp (C := cfg) Try.func60 rfl nm60 rfl (fun B0 S0 H0 => ?_)
  replace H0 : Has B0 S0 [.box b1 [v3, w5], nestA encdom_node dom_node.kids 7 5 v3 ws4 a2.l none, slkA w5 a2.freed] := H0
  refine WpC.seq ?_
  refine WpC.region E.obj rfl ?_
  refine wpO.val rfl (oper_assign rfl) rfl ?_
  refine wpO.nil ?_
  refine WpC.seq ?_
  refine WpC.block ?_
  refine WpL.start (B := B0) (α := Int) (fun k a => dom_Dom_within_l16 a2 a7 k a = some r) (fun a => [(0, (.ptr b1 0 0)), (1, (.d (.int .i64 a))), (2, (.d (.int .i64 a7)))]) (fun a => [.box b1 [v3, w5], nestA encdom_node dom_node.kids 7 5 v3 ws4 a2.l none, slkA w5 a2.freed]) ?_ ?_ n ⟨a6, _, _, S0, .refl _ _, .refl _, (WeakE.cons rfl (.refl _) (WeakE.cons rfl (.refl _) (WeakE.cons rfl (.refl _) WeakE.nil))), H0.sel [0, 1, 2] (by decide) rfl, h⟩
  · intro a h; simp [dom_Dom_within_l16] at h
  ·
    intro k16 x15 S13 H14 h
    replace h : dom_Dom_within_l16 a2 a7 (k16 + 1) x15 = some r := h
    replace H14 : Has B0 S13 [.box b1 [v3, w5], nestA encdom_node dom_node.kids 7 5 v3 ws4 a2.l none, slkA w5 a2.freed] := H14
    unfold dom_Dom_within_l16 at h
    refine WpC.seq ?_
    refine WpC.seq ?_
    refine WpC.region E.obj rfl ?_
    refine wpO.val rfl (oper_move rfl) rfl ?_
    refine wpO.val rfl (oper_bin rfl rfl binD_neq) rfl ?_
    refine wpO.val rfl (oper_move rfl) rfl ?_
    refine wpO.groupV 4 13 (.d (.bool ((x15 != 0) && (x15 != a7)))) ?_ ?_
    ·
      rcases Bool.eq_false_or_eq_true ((x15 != 0)) with hB17 | hB17
      ·
        refine wpO.bool hB17 ?_
        refine wpO.val rfl (oper_move rfl) rfl ?_
        refine wpO.val rfl (oper_move rfl) rfl ?_
        refine wpO.val rfl (oper_bin rfl rfl binD_neq) rfl ?_
        refine wpO.val rfl (oper_pick (b := true) rfl rfl) rfl ?_
        exact wpO.nil ⟨_, rfl, (WeakE.put (WeakE.push rfl (WeakE.push rfl (WeakE.push rfl (WeakE.put (.refl _) (Less.eq (by rw [hB17])))))) (Less.eq (by rw [hB17]; rw [Bool.true_and])))⟩
      ·
        refine wpO.bool hB17 ?_
        refine wpO.no rfl rfl ?_
        refine wpO.no rfl rfl ?_
        refine wpO.no rfl rfl ?_
        refine wpO.val rfl (oper_pick (b := false) rfl rfl) rfl ?_
        exact wpO.nil ⟨_, rfl, (WeakE.put (WeakE.push rfl (WeakE.push rfl (WeakE.push rfl (WeakE.put (.refl _) (Less.eq (by rw [hB17])))))) (Less.eq (by rw [hB17]; rw [Bool.false_and])))⟩
    ·
      refine wpO.nil ?_
      refine WpC.cond rfl (fun hb18 => ?_) (fun hb18 => ?_)
      ·
        replace h := if_t hb18 h
        refine WpC.skip ?_
        refine WpC.block ?_
        refine WpC.region E.obj rfl ?_
        refine wpO.val rfl (oper_move rfl) rfl ?_
        refine wpO.val rfl (oper_nilCheck rfl) rfl ?_
        refine wpO.val rfl (oper_fieldAddr rfl fo87_0 nz85 rfl) rfl ?_
        refine wpO.val rfl (oper_load H14 (i := 0) rfl rfl (part_one ag85 rfl)) rfl ?_
        refine wpO.val rfl (oper_move rfl) rfl ?_
        refine wpO.val rfl (oper_bin rfl rfl binD_sub) rfl ?_
        obtain ⟨z19, hzz19, h⟩ := bind_some h
        refine wpO.val rfl (oper_nestIdx H14 (i := 1) rfl hzz19 rfl rfl el85 as90 sz90) rfl ?_
        refine wpO.val rfl (oper_nestField H14 (i := 1) rfl hzz19 rfl fo90_6 nz3 rfl) rfl ?_
        refine wpO.nestLoadF H14 rfl (q := 1) rfl hzz19 rfl ag3 rfl rfl rfl ?_
        refine wpO.val rfl (oper_assign rfl) rfl ?_
        refine wpO.nil ?_
        exact ⟨z19.parent, _, _, S13, .refl _ _, .refl _, (WeakE.cons rfl (.refl _) (WeakE.cons rfl (.refl _) (WeakE.cons rfl (.refl _) WeakE.nil))), H14.sel [0, 1, 2] (by decide) rfl, h⟩
      ·
        replace h := if_f hb18 h
        refine WpC.exit ?_
        refine WpC.seq ?_
        refine WpC.region E.obj rfl ?_
        refine wpO.val rfl (oper_move rfl) rfl ?_
        refine wpO.val rfl (oper_move rfl) rfl ?_
        refine wpO.val rfl (oper_bin rfl rfl binD_eql) rfl ?_
        refine wpO.val rfl (oper_assign rfl) rfl ?_
        refine wpO.nil ?_
        have hr := Option.some.inj h
        subst hr
        exact WpC.ret ⟨_, rfl, rfl, _, _, _, .refl _, (.refl _), ⟨rfl, rfl⟩, H14.sel [0, 1, 2] (by decide) rfl⟩
set_option maxRecDepth 20000 in
set_option maxHeartbeats 4000000 in
theorem slices_Index__int_int__ok (n : Nat) (a1 : (List Int)) (a2 : Int) (r : Int) (h : slices_Index__int_int_ n a1 a2 = some r) : SpecC R cfg.P 84 [(.sl ((a1).map (D.int .i64)) false), (.int .i64 a2)] (.d (.int .i64 r)) := by
  unfold slices_Index__int_int_ at h
  refine SpecC.of_wp E.obj.toObjOk (C := cfg) Try.func84 rfl nm84 rfl ?_
  have H0 : Has pureSt pureSt [] := Has.pure
  refine WpC.seq ?_
  refine WpC.region E.obj rfl ?_
  refine wpO.val rfl (oper_assign rfl) rfl ?_
  refine wpO.nil ?_
  refine WpC.seq ?_
  refine WpC.seq ?_
  refine WpC.region E.obj rfl ?_
  refine wpO.val rfl (oper_move rfl) rfl ?_
  refine wpO.val rfl (oper_lenL rfl es31) rfl ?_
  refine wpO.val rfl (oper_move rfl) rfl ?_
  refine wpO.nil ?_
  refine WpC.block ?_
  refine WpL.start (B := pureSt) (α := Int) (fun k a => slices_Index__int_int__l11 a1 a2 k a = some r) (fun a => [(0, (.d (.sl ((a1).map (D.int .i64)) false))), (1, (.d (.int .i64 a2))), (7, (.d (.int .i64 ((a1).length : Int)))), (8, (.d (.int .i64 a)))]) (fun a => []) ?_ ?_ n ⟨0, _, _, pureSt, .refl _ _, .refl _, (WeakE.cons rfl (.refl _) (WeakE.cons rfl (.refl _) (WeakE.cons rfl (.refl _) (WeakE.cons rfl (.refl _) WeakE.nil)))), H0.sel [] (by decide) rfl, h⟩
  · intro a h; simp [slices_Index__int_int__l11] at h
  ·
    intro k11 x10 S8 H9 h
    replace h : slices_Index__int_int__l11 a1 a2 (k11 + 1) x10 = some r := h
    replace H9 : Has pureSt S8 [] := H9
    unfold slices_Index__int_int__l11 at h
    refine WpC.seq ?_
    refine WpC.region E.obj rfl ?_
    refine wpO.val rfl (oper_bin rfl rfl binD_lss) rfl ?_
    refine wpO.nil ?_
    refine WpC.seq ?_
    refine WpC.cond rfl (fun hb12 => ?_) (fun hb12 => ?_)
    ·
      replace h := if_t hb12 h
      refine WpC.skip ?_
      refine WpC.seq ?_
      refine WpC.block ?_
      refine WpC.seq ?_
      refine WpC.region E.obj rfl ?_
      refine wpO.val rfl (oper_move rfl) rfl ?_
      refine wpO.val rfl (oper_assign rfl) rfl ?_
      refine wpO.nil ?_
      refine WpC.seq ?_
      refine WpC.region E.obj rfl ?_
      refine wpO.val rfl (oper_move rfl) rfl ?_
      refine wpO.val rfl (oper_move rfl) rfl ?_
      refine wpO.val rfl (oper_move rfl) rfl ?_
      obtain ⟨z13, hzz13, h⟩ := bind_some h
      refine wpO.val rfl (oper_idx rfl rfl (idxAddr (enc := (D.int .i64)) hzz13 el31 as3 (((fun _ => rfl) _).trans sz3.symm))) rfl ?_
      refine wpO.val rfl (oper_loadE rfl (partD_one ag3 rfl)) rfl ?_
      refine wpO.val rfl (oper_bin rfl rfl binD_eql) rfl ?_
      refine wpO.nil ?_
      refine WpC.cond rfl (fun hb14 => ?_) (fun hb14 => ?_)
      ·
        replace h := if_t hb14 h
        refine WpC.seq ?_
        refine WpC.region E.obj rfl ?_
        refine wpO.val rfl (oper_move rfl) rfl ?_
        refine wpO.val rfl (oper_assign rfl) rfl ?_
        refine wpO.nil ?_
        have hr := Option.some.inj h
        subst hr
        exact WpC.ret ⟨_, rfl, rfl, end1 (ArgsC.eq .nil)⟩
      ·
        replace h := if_f hb14 h
        refine WpC.skip ?_
        refine WpC.region E.obj rfl ?_
        refine wpO.val rfl (oper_bin rfl rfl binD_add) rfl ?_
        refine wpO.val rfl (oper_move rfl) rfl ?_
        refine wpO.nil ?_
        exact ⟨(IntKind.wrap .i64 (x10 + 1)), _, _, S8, .refl _ _, .refl _, (WeakE.cons rfl (.refl _) (WeakE.cons rfl (.refl _) (WeakE.cons rfl (.refl _) (WeakE.cons rfl (.refl _) WeakE.nil)))), H9.sel [] (by decide) rfl, h⟩
    ·
      replace h := if_f hb12 h
      refine WpC.exit ?_
      refine WpC.seq ?_
      refine WpC.region E.obj rfl ?_
      refine wpO.val rfl (oper_assign rfl) rfl ?_
      refine wpO.nil ?_
      have hr := Option.some.inj h
      subst hr
      exact WpC.ret ⟨_, rfl, rfl, end1 (ArgsC.eq .nil)⟩
set_option maxRecDepth 20000 in
set_option maxHeartbeats 4000000 in
theorem slices_Delete__int_int__ok (n : Nat) (a1 : (List Int)) (a3 : Int) (a4 : Int) (r : (List Int)) (h : slices_Delete__int_int_ n a1 a3 a4 = some r) (w2 : AV) : SpecM R cfg.P 85 [w2, .d (.int .i64 a3), .d (.int .i64 a4)] [slkA w2 a1] (fun v l => l = [slkA v r]) := by
  unfold slices_Delete__int_int_ at h
  refine SpecM.of_wp (C := cfg) Try.func85 rfl nm85 rfl (fun B0 S0 H0 => ?_)
  replace H0 : Has B0 S0 [slkA w2 a1] := H0
  refine WpC.seq ?_
  refine WpC.region E.obj rfl ?_
  refine wpO.val rfl (oper_assign rfl) rfl ?_
  refine wpO.nil ?_
  refine WpC.seq ?_
  refine WpC.region E.obj rfl ?_
  refine wpO.val rfl (oper_move rfl) rfl ?_
  refine wpO.val rfl (oper_move rfl) rfl ?_
  refine wpO.val rfl (oper_move rfl) rfl ?_
  refine wpO.val rfl (oper_move rfl) rfl ?_
  refine wpO.val rfl (oper_lenS H0 (i := 0) rfl rfl es31) rfl ?_
  obtain ⟨z5, hzz5, h⟩ := bind_some h
  refine wpO.val rfl (oper_slk3 H0 (q := 0) rfl rfl rfl rfl rfl el31 ue31 sz3 (delI_b hzz5)) rfl ?_
  refine wpO.nil ?_
  refine WpC.seq ?_
  refine WpC.seq ?_
  refine WpC.region E.obj rfl ?_
  refine wpO.val rfl (oper_move rfl) rfl ?_
  refine wpO.val rfl (oper_move rfl) rfl ?_
  refine wpO.val rfl (oper_bin rfl rfl binD_eql) rfl ?_
  refine wpO.nil ?_
  refine WpC.cond rfl (fun hb6 => ?_) (fun hb6 => ?_)
  ·
    replace h := if_t hb6 h
    refine WpC.seq ?_
    refine WpC.region E.obj rfl ?_
    refine wpO.val rfl (oper_move rfl) rfl ?_
    refine wpO.val rfl (oper_assign rfl) rfl ?_
    refine wpO.nil ?_
    have hr := Option.some.inj h
    subst hr
    exact WpC.ret ⟨_, rfl, rfl, _, _, _, .refl _, (.refl _), rfl, H0.sel [0] (by decide) rfl⟩
  ·
    replace h := if_f hb6 h
    refine WpC.skip ?_
    refine WpC.seq ?_
    refine WpC.region E.obj rfl ?_
    refine wpO.val rfl (oper_move rfl) rfl ?_
    refine wpO.val rfl (oper_lenS H0 (i := 0) rfl rfl es31) rfl ?_
    refine wpO.val rfl (oper_assign rfl) rfl ?_
    refine wpO.nil ?_
    refine WpC.seq ?_
    refine WpC.drawP E.obj hmix [[(0, none)], [(1, none)], [(20, some 0), (21, some 1)], [(0, none)], [(2, none)], [(23, some 3), (24, some 4)], [(22, some 2), (25, some 5)], [(26, some 6)]] [(0, some 7), (7, none)] (by kernel_rfl) [6] (by decide) [some w2, some (.d (.int .i64 a3)), some (slkTo w2 (Int.toNat a3)), some w2, some (.d (.int .i64 a4)), some (slkFrom w2 (Int.toNat a4)), none, none] ?_
    refine ⟨[0, 1, 2, 3, 4, 5], by kernel_rfl, ?_, _, _, rfl, rfl, .step ?_⟩
    ·
      refine .cons rfl rfl rfl (.step ?_) ?_
      ·
        refine wpO.val rfl (oper_move rfl) rfl ?_
        exact wpO.nil ⟨_, _, rfl, fun _ ht => by cases ht; exact ⟨rfl, .refl _⟩⟩
      refine .cons rfl rfl rfl (.step ?_) ?_
      ·
        refine wpO.val rfl (oper_move rfl) rfl ?_
        exact wpO.nil ⟨_, _, rfl, fun _ ht => by cases ht; exact ⟨rfl, .refl _⟩⟩
      refine .cons rfl rfl rfl (.step ?_) ?_
      ·
        refine wpO.val rfl (oper_slkTo H0 (q := 0) rfl rfl rfl el31 ue31 sz3 (delI_b hzz5)) rfl ?_
        exact wpO.nil ⟨_, _, rfl, fun _ ht => by cases ht; exact ⟨rfl, .refl _⟩⟩
      refine .cons rfl rfl rfl (.step ?_) ?_
      ·
        refine wpO.val rfl (oper_move rfl) rfl ?_
        exact wpO.nil ⟨_, _, rfl, fun _ ht => by cases ht; exact ⟨rfl, .refl _⟩⟩
      refine .cons rfl rfl rfl (.step ?_) ?_
      ·
        refine wpO.val rfl (oper_move rfl) rfl ?_
        exact wpO.nil ⟨_, _, rfl, fun _ ht => by cases ht; exact ⟨rfl, .refl _⟩⟩
      refine .cons rfl rfl rfl (.step ?_) ?_
      ·
        refine wpO.val rfl (oper_slkFrom H0 (q := 0) rfl rfl rfl el31 ue31 sz3 (delI_b hzz5)) rfl ?_
        exact wpO.nil ⟨_, _, rfl, fun _ ht => by cases ht; exact ⟨rfl, .refl _⟩⟩
      exact .nil
    have H12 : Has B0 S0 ([slkA w2 a1] ++ []) := H0.sel [0] (by decide) rfl
    replace H12 : Has B0 S0 [slkA w2 a1] := H12
    refine wpO.slkDel H12 rfl rfl rfl os31 el31 sz3 hzz5 rfl (fun S13 H14 hroom15 => ?_)
    have H16 : Has B0 S13 [slkA (slkTo w2 (z5).length) z5] := H14.sel [0] (by decide) rfl
    refine wpO.nil ⟨_, _, _, rfl, (fun _ ht => by cases ht; rfl), [some w2, some (.d (.int .i64 a3)), some (slkTo w2 (Int.toNat a3)), some w2, some (.d (.int .i64 a4)), some (slkFrom w2 (Int.toNat a4)), some (slkTo w2 (z5).length), some (slkTo w2 (z5).length)], (.old (.refl _) (.old (.refl _) (.old (.refl _) (.old (.refl _) (.old (.refl _) (.old (.refl _) (.new (.new .nil)))))))), (fun _ ht => by cases ht; exact ⟨_, rfl, .refl _⟩), ?_⟩
    refine ⟨[7], by kernel_rfl, ?_, _, rfl, ?_⟩
    ·
      refine .cons rfl rfl rfl (.step ?_) ?_
      ·
        refine wpO.val rfl (oper_assign rfl) rfl ?_
        exact wpO.nil ⟨_, _, rfl, fun _ ht => by cases ht; exact ⟨rfl, .refl _⟩⟩
      exact .nil
    refine WpC.seq ?_
    refine WpC.region E.obj rfl ?_
    refine wpO.val rfl (oper_move rfl) rfl ?_
    refine wpO.val rfl (oper_move rfl) rfl ?_
    refine wpO.val rfl (oper_lenS H16 (i := 0) rfl rfl es31) rfl ?_
    refine wpO.val rfl (oper_move rfl) rfl ?_
    refine wpO.val rfl (oper_slkMid H16 (q := 0) rfl rfl rfl rfl el31 ue31 sz3 (Int.natCast_nonneg _) hroom15) rfl ?_
    have H17 : Has B0 S13 ([slkA (slkTo w2 (z5).length) z5] ++ []) := H16.sel [0] (by decide) rfl
    replace H17 : Has B0 S13 [slkA (slkTo w2 (z5).length) z5] := H17
    refine wpO.slkClear (jj := _) H17 rfl rfl el31 zo3 rfl hroom15 (fun S18 H19 => ?_)
    have H20 : Has B0 S18 [slkA (slkTo w2 (z5).length) z5] := H19.sel [0] (by decide) rfl
    refine wpO.nil ?_
    refine WpC.seq ?_
    refine WpC.region E.obj rfl ?_
    refine wpO.val rfl (oper_move rfl) rfl ?_
    refine wpO.val rfl (oper_assign rfl) rfl ?_
    refine wpO.nil ?_
    have hr := Option.some.inj h
    subst hr
    exact WpC.ret ⟨_, rfl, rfl, _, _, _, .refl _, (.refl _), rfl, H20.sel [0] (by decide) rfl⟩
set_option maxRecDepth 20000 in
set_option maxHeartbeats 4000000 in
theorem dom_Dom_leave_ok (n : Nat) (a2 : dom_Dom) (a6 : Int) (r : dom_Dom) (h : dom_Dom_leave n a2 a6 = some r) (b1 : Nat) (v3 : AV) (ws4 : List (List AV)) (w5 : AV) : SpecM R cfg.P 61 [.ptr b1 0 0, .d (.int .i64 a6)] [.box b1 [v3, w5], nestA encdom_node dom_node.kids 7 5 v3 ws4 a2.l none, slkA w5 a2.freed] (fun v l => v = .tup [] ∧ ∃ dws0 dw0, l = [.box b1 [v3, dw0], nestA encdom_node dom_node.kids 7 5 v3 dws0 r.l none, slkA dw0 r.freed]) := by
  unfold dom_Dom_leave at h
  refine SpecM.of_wp (C := cfg) Try.func61 rfl nm61 rfl (fun B0 S0 H0 => ?_)
  replace H0 : Has B0 S0 [.box b1 [v3, w5], nestA encdom_node dom_node.kids 7 5 v3 ws4 a2.l none, slkA w5 a2.freed] := H0
  refine WpC.seq ?_
  refine WpC.region E.obj rfl ?_
  refine wpO.val rfl (oper_move rfl) rfl ?_
  refine wpO.val rfl (oper_nilCheck rfl) rfl ?_
  refine wpO.val rfl (oper_fieldAddr rfl fo87_0 nz85 rfl) rfl ?_
  refine wpO.val rfl (oper_load H0 (i := 0) rfl rfl (part_one ag85 rfl)) rfl ?_
  refine wpO.val rfl (oper_move rfl) rfl ?_
  refine wpO.val rfl (oper_bin rfl rfl binD_sub) rfl ?_
  obtain ⟨z7, hzz7, h⟩ := bind_some h
  refine wpO.val rfl (oper_nestIdx H0 (i := 1) rfl hzz7 rfl rfl el85 as90 sz90) rfl ?_
  refine wpO.val rfl (oper_assign rfl) rfl ?_
  refine wpO.nil ?_
  refine WpC.seq ?_
  refine WpC.seq ?_
  refine WpC.region E.obj rfl ?_
  refine wpO.val rfl (oper_move rfl) rfl ?_
  refine wpO.val rfl (oper_nilCheckN H0 (q := 1) rfl hzz7 rfl) rfl ?_
  refine wpO.val rfl (oper_nestField H0 (i := 1) rfl hzz7 rfl fo90_6 nz3 rfl) rfl ?_
  refine wpO.nestLoadF H0 rfl (q := 1) rfl hzz7 rfl ag3 rfl rfl rfl ?_
  refine wpO.val rfl (oper_bin rfl rfl binD_eql) rfl ?_
  refine wpO.nil ?_
  refine WpC.cond rfl (fun hb8 => ?_) (fun hb8 => ?_)
  ·
    replace h := if_t hb8 h
    have hr := Option.some.inj h
    subst hr
    exact WpC.ret ⟨_, rfl, rfl, _, _, _, .refl _, (.refl _), ⟨rfl, ws4, w5, rfl⟩, H0.sel [0, 1, 2] (by decide) rfl⟩
  ·
    replace h := if_f hb8 h
    refine WpC.skip ?_
    refine WpC.seq ?_
    obtain ⟨z9, hzz9, h⟩ := bind_some h
    refine WpC.drawP E.obj hmix [[(0, none)], [(19, some 0)], [(20, some 1)], [(21, some 2)], [(4, none)], [(23, some 4)], [(24, some 5)], [(25, some 6)], [(26, some 7)], [(22, some 3), (27, some 8)], [(28, some 9)]] [(1, none), (4, none), (5, some 10)] (by kernel_rfl) [] (by decide) [some (.ptr b1 0 0), some (.ptr b1 0 0), some (.ptr b1 0 0), some v3, some (rowPtr v3 (Int.toNat (IntKind.wrap .i64 (a6 - 1))) 0), some (rowPtr v3 (Int.toNat (IntKind.wrap .i64 (a6 - 1))) 0), some (rowPtr v3 (Int.toNat (IntKind.wrap .i64 (a6 - 1))) 6), some (.d (.int .i64 z7.parent)), some (.d (.int .i64 (IntKind.wrap .i64 (z7.parent - 1)))), some (rowPtr v3 (Int.toNat (IntKind.wrap .i64 (z7.parent - 1))) 0), some (rowPtr v3 (Int.toNat (IntKind.wrap .i64 (z7.parent - 1))) 0)] ?_
    refine ⟨[0, 1, 2, 3, 4, 5, 6, 7, 8, 9, 10], by kernel_rfl, ?_, _, rfl, ?_⟩
    ·
      refine .cons rfl rfl rfl (.step ?_) ?_
      ·
        refine wpO.val rfl (oper_move rfl) rfl ?_
        exact wpO.nil ⟨_, _, rfl, fun _ ht => by cases ht; exact ⟨rfl, .refl _⟩⟩
      refine .cons rfl rfl rfl (.step ?_) ?_
      ·
        refine wpO.val rfl (oper_nilCheck rfl) rfl ?_
        exact wpO.nil ⟨_, _, rfl, fun _ ht => by cases ht; exact ⟨rfl, .refl _⟩⟩
      refine .cons rfl rfl rfl (.step ?_) ?_
      ·
        refine wpO.val rfl (oper_fieldAddr rfl fo87_0 nz85 rfl) rfl ?_
        exact wpO.nil ⟨_, _, rfl, fun _ ht => by cases ht; exact ⟨rfl, .refl _⟩⟩
      refine .cons rfl rfl rfl (.step ?_) ?_
      ·
        refine wpO.val rfl (oper_load H0 (i := 0) rfl rfl (part_one ag85 rfl)) rfl ?_
        exact wpO.nil ⟨_, _, rfl, fun _ ht => by cases ht; exact ⟨rfl, .refl _⟩⟩
      refine .cons rfl rfl rfl (.step ?_) ?_
      ·
        refine wpO.val rfl (oper_move rfl) rfl ?_
        exact wpO.nil ⟨_, _, rfl, fun _ ht => by cases ht; exact ⟨rfl, .refl _⟩⟩
      refine .cons rfl rfl rfl (.step ?_) ?_
      ·
        refine wpO.val rfl (oper_nilCheckN H0 (q := 1) rfl hzz7 rfl) rfl ?_
        exact wpO.nil ⟨_, _, rfl, fun _ ht => by cases ht; exact ⟨rfl, .refl _⟩⟩
      refine .cons rfl rfl rfl (.step ?_) ?_
      ·
        refine wpO.val rfl (oper_nestField H0 (i := 1) rfl hzz7 rfl fo90_6 nz3 rfl) rfl ?_
        exact wpO.nil ⟨_, _, rfl, fun _ ht => by cases ht; exact ⟨rfl, .refl _⟩⟩
      refine .cons rfl rfl rfl (.step ?_) ?_
      ·
        refine wpO.nestLoadF H0 rfl (q := 1) rfl hzz7 rfl ag3 rfl rfl rfl ?_
        exact wpO.nil ⟨_, _, rfl, fun _ ht => by cases ht; exact ⟨rfl, .refl _⟩⟩
      refine .cons rfl rfl rfl (.step ?_) ?_
      ·
        refine wpO.val rfl (oper_bin rfl rfl binD_sub) rfl ?_
        exact wpO.nil ⟨_, _, rfl, fun _ ht => by cases ht; exact ⟨rfl, .refl _⟩⟩
      refine .cons rfl rfl rfl (.step ?_) ?_
      ·
        refine wpO.val rfl (oper_nestIdx H0 (i := 1) rfl hzz9 rfl rfl el85 as90 sz90) rfl ?_
        exact wpO.nil ⟨_, _, rfl, fun _ ht => by cases ht; exact ⟨rfl, .refl _⟩⟩
      refine .cons rfl rfl rfl (.step ?_) ?_
      ·
        refine wpO.val rfl (oper_assign rfl) rfl ?_
        exact wpO.nil ⟨_, _, rfl, fun _ ht => by cases ht; exact ⟨rfl, .refl _⟩⟩
      exact .nil
    refine WpC.seq ?_
    refine WpC.region E.obj rfl ?_
    refine wpO.val rfl (oper_move rfl) rfl ?_
    obtain ⟨z10, hzz10, h⟩ := bind_some h
    refine wpO.val rfl (oper_nilCheckN H0 (q := 1) rfl hzz10 rfl) rfl ?_
    refine wpO.val rfl (oper_nestField H0 (i := 1) rfl hzz10 rfl fo90_5 nz31 rfl) rfl ?_
    refine wpO.val rfl (oper_nestLoadK H0 (i := 1) rfl hzz10 rfl ag31) rfl ?_
    refine wpO.val rfl (oper_move rfl) rfl ?_
    obtain ⟨z11, hzz11, h⟩ := bind_some h
    have H12 : Has B0 S0 ([nestA encdom_node dom_node.kids 7 5 v3 ws4 a2.l none] ++ [.box b1 [v3, w5], slkA w5 a2.freed]) := H0.sel [1, 0, 2] (by decide) rfl
    replace H12 : Has B0 S0 [nestA encdom_node dom_node.kids 7 5 v3 ws4 a2.l none, .box b1 [v3, w5], slkA w5 a2.freed] := H12
    have H13 := Has.take H12 (idx_some hzz10).2
    refine wpO.retL E.obj.toObjOk rfl (oper_callF rfl rfl) (slices_Index__int_int__ok E n _ _ _ hzz11) rfl (.cons (Lend.slk H13 (q := 0) rfl) (.cons (.less (.refl _)) .nil)) rfl ?_
    refine wpO.val rfl (oper_assign rfl) rfl ?_
    refine wpO.nil ?_
    refine WpC.seq ?_
    refine WpC.region E.obj rfl ?_
    refine wpO.val rfl (oper_move rfl) rfl ?_
    refine wpO.val rfl (oper_move rfl) rfl ?_
    refine wpO.val rfl (oper_nilCheckN H0 (q := 1) rfl hzz10 rfl) rfl ?_
    refine wpO.val rfl (oper_nestField H0 (i := 1) rfl hzz10 rfl fo90_5 nz31 rfl) rfl ?_
    refine wpO.val rfl (oper_nestLoadK H0 (i := 1) rfl hzz10 rfl ag31) rfl ?_
    refine wpO.val rfl (oper_move rfl) rfl ?_
    refine wpO.val rfl (oper_move rfl) rfl ?_
    refine wpO.val rfl (oper_bin rfl rfl binD_add) rfl ?_
    obtain ⟨z14, hzz14, h⟩ := bind_some h
    have H15 : Has B0 S0 ([nestA encdom_node dom_node.kids 7 5 v3 ws4 a2.l none] ++ [.box b1 [v3, w5], slkA w5 a2.freed]) := H0.sel [1, 0, 2] (by decide) rfl
    replace H15 : Has B0 S0 [nestA encdom_node dom_node.kids 7 5 v3 ws4 a2.l none, .box b1 [v3, w5], slkA w5 a2.freed] := H15
    have H16 := Has.take H15 (idx_some hzz10).2
    have H17 : Has B0 S0 [slkA (kwAt 5 ws4 (Int.toNat (IntKind.wrap .i64 (z7.parent - 1)))) z10.kids, .box b1 [v3, w5], nestA encdom_node dom_node.kids 7 5 v3 ws4 a2.l (some (Int.toNat (IntKind.wrap .i64 (z7.parent - 1)))), slkA w5 a2.freed] := H16.sel [0, 2, 1, 3] (by decide) rfl
    refine wpO.retM (ins := [slkA (kwAt 5 ws4 (Int.toNat (IntKind.wrap .i64 (z7.parent - 1)))) z10.kids]) (more := [.box b1 [v3, w5], nestA encdom_node dom_node.kids 7 5 v3 ws4 a2.l (some (Int.toNat (IntKind.wrap .i64 (z7.parent - 1)))), slkA w5 a2.freed]) (H17.sel [0, 1, 2, 3] (by decide) rfl) rfl (oper_callF rfl rfl) (slices_Delete__int_int__ok E n _ _ _ _ hzz14 _) (.cons (.refl _) (.cons (.refl _) (.cons (.refl _) .nil))) rfl ?_
    rintro v18 S19 _ rfl H20
    replace H20 : Has B0 S19 [slkA v18 z14, .box b1 [v3, w5], nestA encdom_node dom_node.kids 7 5 v3 ws4 a2.l (some (Int.toNat (IntKind.wrap .i64 (z7.parent - 1)))), slkA w5 a2.freed] := H20
    have H21 : Has B0 S19 [slkA v18 z14, .box b1 [v3, w5], nestA encdom_node dom_node.kids 7 5 v3 ws4 a2.l (some (Int.toNat (IntKind.wrap .i64 (z7.parent - 1)))), slkA w5 a2.freed] := H20.sel [0, 1, 2, 3] (by decide) rfl
    refine wpO.val rfl (oper_nilCheckN H21 (q := 2) rfl hzz10 rfl) rfl ?_
    refine wpO.val rfl (oper_nestField H21 (i := 2) rfl hzz10 rfl fo90_5 nz31 rfl) rfl ?_
    have H25 : Has B0 S19 ([slkA v18 z14, nestA encdom_node dom_node.kids 7 5 v3 ws4 a2.l (some (Int.toNat (IntKind.wrap .i64 (z7.parent - 1))))] ++ [.box b1 [v3, w5], slkA w5 a2.freed]) := H21.sel [0, 2, 1, 3] (by decide) rfl
    replace H25 : Has B0 S19 [slkA v18 z14, nestA encdom_node dom_node.kids 7 5 v3 ws4 a2.l (some (Int.toNat (IntKind.wrap .i64 (z7.parent - 1)))), .box b1 [v3, w5], slkA w5 a2.freed] := H25
    refine wpO.nestStoreK (z' := (dom_node.mk z10.lives z10.tag z10.key z10.text z10.attrs z14 z10.parent)) (c := .sl ((z14).map (D.int .i64)) false) H25 rfl hzz10 (.inr rfl) rfl rfl sz31 as31 rfl rfl rfl (fun ws24 S22 H23 => ?_)
    have H26 : Has B0 S22 [.box b1 [v3, w5], nestA encdom_node dom_node.kids 7 5 v3 ws24 (setI a2.l (IntKind.wrap .i64 (z7.parent - 1)) (dom_node.mk z10.lives z10.tag z10.key z10.text z10.attrs z14 z10.parent)) none, slkA w5 a2.freed] := H23.sel [1, 0, 2] (by decide) rfl
    refine wpO.nil ?_
    refine WpC.region E.obj rfl ?_
    refine wpO.val rfl (oper_move rfl) rfl ?_
    obtain ⟨z27, hzz27, h⟩ := bind_some h
    refine wpO.val rfl (oper_nilCheckN H26 (q := 1) rfl hzz27 rfl) rfl ?_
    refine wpO.val rfl (oper_nestField H26 (i := 1) rfl hzz27 rfl fo90_6 nz3 rfl) rfl ?_
    have H31 : Has B0 S22 ([nestA encdom_node dom_node.kids 7 5 v3 ws24 (setI a2.l (IntKind.wrap .i64 (z7.parent - 1)) (dom_node.mk z10.lives z10.tag z10.key z10.text z10.attrs z14 z10.parent)) none] ++ [.box b1 [v3, w5], slkA w5 a2.freed]) := H26.sel [1, 0, 2] (by decide) rfl
    replace H31 : Has B0 S22 [nestA encdom_node dom_node.kids 7 5 v3 ws24 (setI a2.l (IntKind.wrap .i64 (z7.parent - 1)) (dom_node.mk z10.lives z10.tag z10.key z10.text z10.attrs z14 z10.parent)) none, .box b1 [v3, w5], slkA w5 a2.freed] := H31
    refine wpO.nestStoreF (z' := (dom_node.mk z27.lives z27.tag z27.key z27.text z27.attrs z27.kids 0)) H31 rfl hzz27 rfl rfl rfl rfl (.refl _) sz3 as3 rfl rfl rfl rfl rfl (fun ws30 S28 H29 => ?_)
    have H32 : Has B0 S28 [.box b1 [v3, w5], nestA encdom_node dom_node.kids 7 5 v3 ws30 (setI (setI a2.l (IntKind.wrap .i64 (z7.parent - 1)) (dom_node.mk z10.lives z10.tag z10.key z10.text z10.attrs z14 z10.parent)) (IntKind.wrap .i64 (a6 - 1)) (dom_node.mk z27.lives z27.tag z27.key z27.text z27.attrs z27.kids 0)) none, slkA w5 a2.freed] := H29.sel [1, 0, 2] (by decide) rfl
    refine wpO.nil ?_
    have hr := Option.some.inj h
    subst hr
    exact ⟨_, rfl, rfl, _, _, _, .refl _, (.refl _), ⟨rfl, ws30, w5, rfl⟩, H32.sel [0, 1, 2] (by decide) rfl⟩
set_option maxRecDepth 20000 in
set_option maxHeartbeats 4000000 in
theorem dom_Dom_Insert_ok (n : Nat) (a2 : dom_Dom) (a6 : Int) (a7 : Int) (a8 : Int) (r : (Bool × dom_Dom)) (h : dom_Dom_Insert n a2 a6 a7 a8 = some r) (b1 : Nat) (v3 : AV) (ws4 : List (List AV)) (w5 : AV) : SpecM R cfg.P 14 [.ptr b1 0 0, .d (.int .i64 a6), .d (.int .i64 a7), .d (.int .i64 a8)] [.box b1 [v3, w5], nestA encdom_node dom_node.kids 7 5 v3 ws4 a2.l none, slkA w5 a2.freed] (fun v l => v = .d (.bool r.1) ∧ ∃ dws0 dw0, l = [.box b1 [v3, dw0], nestA encdom_node dom_node.kids 7 5 v3 dws0 r.2.l none, slkA dw0 r.2.freed]) := by
  unfold dom_Dom_Insert at h
  refine SpecM.of_wp (C := cfgR2) Try.func14 rfl nm14 rfl (fun B0 S0 H0 => ?_)
  replace H0 : Has B0 S0 [.box b1 [v3, w5], nestA encdom_node dom_node.kids 7 5 v3 ws4 a2.l none, slkA w5 a2.freed] := H0
  refine WpC.seq ?_
  refine WpC.region (objR2 E) rfl ?_
  refine wpO.val rfl (oper_assign rfl) rfl ?_
  refine wpO.nil ?_
  refine WpC.seq ?_
  refine WpC.region (objR2 E) rfl ?_
  refine wpO.val rfl (oper_move rfl) rfl ?_
  refine wpO.val rfl (oper_move rfl) rfl ?_
  obtain ⟨z9, hzz9, h⟩ := bind_some h
  refine wpO.retM (ins := [.box b1 [v3, w5], nestA encdom_node dom_node.kids 7 5 v3 ws4 a2.l none, slkA w5 a2.freed]) (more := []) (H0.sel [0, 1, 2] (by decide) rfl) rfl (oper_callF rfl rfl) (dom_Dom_at_ok E n _ _ _ hzz9 b1 v3 ws4 w5) (.cons (.refl _) (.cons (.refl _) .nil)) rfl ?_
  rintro v10 S11 l12 hr13 H14
  rcases z9 with _ | _
  ·
    obtain ⟨rfl, rfl⟩ := hr13
    replace h := if_f rfl h
    replace H14 : Has B0 S11 [.box b1 [v3, w5], nestA encdom_node dom_node.kids 7 5 v3 ws4 a2.l none, slkA w5 a2.freed] := H14
    have H15 : Has B0 S11 [.box b1 [v3, w5], nestA encdom_node dom_node.kids 7 5 v3 ws4 a2.l none, slkA w5 a2.freed] := H14.sel [0, 1, 2] (by decide) rfl
    refine wpO.val rfl (oper_move rfl) rfl ?_
    refine wpO.val rfl (oper_move rfl) rfl ?_
    obtain ⟨z16, hzz16, h⟩ := bind_some h
    refine wpO.retM (ins := [.box b1 [v3, w5], nestA encdom_node dom_node.kids 7 5 v3 ws4 a2.l none, slkA w5 a2.freed]) (more := []) (H15.sel [0, 1, 2] (by decide) rfl) rfl (oper_callF rfl rfl) (dom_Dom_at_ok E n _ _ _ hzz16 b1 v3 ws4 w5) (.cons (.refl _) (.cons (.refl _) .nil)) rfl ?_
    rintro v17 S18 l19 hr20 H21
    rcases z16 with _ | _
    ·
      obtain ⟨rfl, rfl⟩ := hr20
      replace h := if_f rfl h
      replace H21 : Has B0 S18 [.box b1 [v3, w5], nestA encdom_node dom_node.kids 7 5 v3 ws4 a2.l none, slkA w5 a2.freed] := H21
      have H22 : Has B0 S18 [.box b1 [v3, w5], nestA encdom_node dom_node.kids 7 5 v3 ws4 a2.l none, slkA w5 a2.freed] := H21.sel [0, 1, 2] (by decide) rfl
      refine wpO.val rfl (oper_assign rfl) rfl ?_
      refine wpO.val rfl (oper_assign rfl) rfl ?_
      refine wpO.nil ?_
      refine WpC.seq ?_
      refine WpC.seq ?_
      refine WpC.region (objR2 E) rfl ?_
      refine wpO.val rfl (oper_move rfl) rfl ?_
      refine wpO.val rfl (oper_bin rfl rfl (binD_nn up91)) rfl ?_
      refine wpO.val rfl (oper_move rfl) rfl ?_
      refine wpO.no rfl rfl ?_
      refine wpO.no rfl rfl ?_
      refine wpO.val rfl (oper_pick (b := true) rfl rfl) rfl ?_
      refine wpO.val rfl (oper_move rfl) rfl ?_
      refine wpO.no rfl rfl ?_
      refine wpO.no rfl rfl ?_
      refine wpO.no rfl rfl ?_
      refine wpO.no rfl rfl ?_
      refine wpO.no rfl rfl ?_
      refine wpO.val rfl (oper_pick (b := true) rfl rfl) rfl ?_
      refine wpO.val rfl (oper_move rfl) rfl ?_
      refine wpO.no rfl rfl ?_
      refine wpO.no rfl rfl ?_
      refine wpO.val rfl (oper_pick (b := true) rfl rfl) rfl ?_
      refine wpO.val rfl (oper_move rfl) rfl ?_
      refine wpO.no rfl rfl ?_
      refine wpO.no rfl rfl ?_
      refine wpO.no rfl rfl ?_
      refine wpO.no rfl rfl ?_
      refine wpO.val rfl (oper_pick (b := true) rfl rfl) rfl ?_
      refine wpO.nil ?_
      refine WpC.cond rfl (fun hb => ?_) (fun hb => ?_)
      ·
        refine WpC.seq ?_
        refine WpC.region (objR2 E) rfl ?_
        refine wpO.val rfl (oper_assign rfl) rfl ?_
        refine wpO.nil ?_
        have hr := Option.some.inj h
        subst hr
        exact WpC.ret ⟨_, rfl, rfl, _, _, _, .refl _, (.refl _), ⟨rfl, ws4, w5, rfl⟩, H22.sel [0, 1, 2] (by decide) rfl⟩
      ·
        cases hb
    ·
      obtain ⟨rfl, rfl⟩ := hr20
      replace h := if_t rfl h
      replace H21 : Has B0 S18 [.box b1 [v3, w5], nestA encdom_node dom_node.kids 7 5 v3 ws4 a2.l none, slkA w5 a2.freed] := H21
      have H23 : Has B0 S18 [.box b1 [v3, w5], nestA encdom_node dom_node.kids 7 5 v3 ws4 a2.l none, slkA w5 a2.freed] := H21.sel [0, 1, 2] (by decide) rfl
      refine wpO.val rfl (oper_assign rfl) rfl ?_
      refine wpO.val rfl (oper_assign rfl) rfl ?_
      refine wpO.nil ?_
      refine WpC.seq ?_
      refine WpC.seq ?_
      refine WpC.region (objR2 E) rfl ?_
      refine wpO.val rfl (oper_move rfl) rfl ?_
      refine wpO.val rfl (oper_bin rfl rfl (binD_nn up91)) rfl ?_
      refine wpO.val rfl (oper_move rfl) rfl ?_
      refine wpO.no rfl rfl ?_
      refine wpO.no rfl rfl ?_
      refine wpO.val rfl (oper_pick (b := true) rfl rfl) rfl ?_
      refine wpO.val rfl (oper_move rfl) rfl ?_
      refine wpO.no rfl rfl ?_
      refine wpO.no rfl rfl ?_
      refine wpO.no rfl rfl ?_
      refine wpO.no rfl rfl ?_
      refine wpO.no rfl rfl ?_
      refine wpO.val rfl (oper_pick (b := true) rfl rfl) rfl ?_
      refine wpO.val rfl (oper_move rfl) rfl ?_
      refine wpO.no rfl rfl ?_
      refine wpO.no rfl rfl ?_
      refine wpO.val rfl (oper_pick (b := true) rfl rfl) rfl ?_
      refine wpO.val rfl (oper_move rfl) rfl ?_
      refine wpO.no rfl rfl ?_
      refine wpO.no rfl rfl ?_
      refine wpO.no rfl rfl ?_
      refine wpO.no rfl rfl ?_
      refine wpO.val rfl (oper_pick (b := true) rfl rfl) rfl ?_
      refine wpO.nil ?_
      refine WpC.cond rfl (fun hb => ?_) (fun hb => ?_)
      ·
        refine WpC.seq ?_
        refine WpC.region (objR2 E) rfl ?_
        refine wpO.val rfl (oper_assign rfl) rfl ?_
        refine wpO.nil ?_
        have hr := Option.some.inj h
        subst hr
        exact WpC.ret ⟨_, rfl, rfl, _, _, _, .refl _, (.refl _), ⟨rfl, ws4, w5, rfl⟩, H23.sel [0, 1, 2] (by decide) rfl⟩
      ·
        cases hb
  ·
    obtain ⟨rfl, rfl⟩ := hr13
    replace h := if_t rfl h
    replace H14 : Has B0 S11 [.box b1 [v3, w5], nestA encdom_node dom_node.kids 7 5 v3 ws4 a2.l none, slkA w5 a2.freed] := H14
    have H24 : Has B0 S11 [.box b1 [v3, w5], nestA encdom_node dom_node.kids 7 5 v3 ws4 a2.l none, slkA w5 a2.freed] := H14.sel [0, 1, 2] (by decide) rfl
    refine wpO.val rfl (oper_move rfl) rfl ?_
    refine wpO.val rfl (oper_move rfl) rfl ?_
    obtain ⟨z25, hzz25, h⟩ := bind_some h
    refine wpO.retM (ins := [.box b1 [v3, w5], nestA encdom_node dom_node.kids 7 5 v3 ws4 a2.l none, slkA w5 a2.freed]) (more := []) (H24.sel [0, 1, 2] (by decide) rfl) rfl (oper_callF rfl rfl) (dom_Dom_at_ok E n _ _ _ hzz25 b1 v3 ws4 w5) (.cons (.refl _) (.cons (.refl _) .nil)) rfl ?_
    rintro v26 S27 l28 hr29 H30
    rcases z25 with _ | _
    ·
      obtain ⟨rfl, rfl⟩ := hr29
      replace h := if_f rfl h
      replace H30 : Has B0 S27 [.box b1 [v3, w5], nestA encdom_node dom_node.kids 7 5 v3 ws4 a2.l none, slkA w5 a2.freed] := H30
      have H31 : Has B0 S27 [.box b1 [v3, w5], nestA encdom_node dom_node.kids 7 5 v3 ws4 a2.l none, slkA w5 a2.freed] := H30.sel [0, 1, 2] (by decide) rfl
      refine wpO.val rfl (oper_assign rfl) rfl ?_
      refine wpO.val rfl (oper_assign rfl) rfl ?_
      refine wpO.nil ?_
      refine WpC.seq ?_
      refine WpC.seq ?_
      refine WpC.region (objR2 E) rfl ?_
      refine wpO.val rfl (oper_move rfl) rfl ?_
      obtain ⟨z32, hzz32, h⟩ := bind_some h
      refine wpO.val rfl (oper_eqN H31 (q := 1) rfl hzz32 rfl rfl up91) rfl ?_
      refine wpO.val rfl (oper_move rfl) rfl ?_
      refine wpO.val rfl (oper_move rfl) rfl ?_
      refine wpO.val rfl (oper_bin rfl rfl (binD_nn up91)) rfl ?_
      refine wpO.val rfl (oper_pick (b := false) rfl rfl) rfl ?_
      refine wpO.val rfl (oper_move rfl) rfl ?_
      refine wpO.no rfl rfl ?_
      refine wpO.no rfl rfl ?_
      refine wpO.no rfl rfl ?_
      refine wpO.no rfl rfl ?_
      refine wpO.no rfl rfl ?_
      refine wpO.val rfl (oper_pick (b := true) rfl rfl) rfl ?_
      refine wpO.val rfl (oper_move rfl) rfl ?_
      refine wpO.no rfl rfl ?_
      refine wpO.no rfl rfl ?_
      refine wpO.val rfl (oper_pick (b := true) rfl rfl) rfl ?_
      refine wpO.val rfl (oper_move rfl) rfl ?_
      refine wpO.no rfl rfl ?_
      refine wpO.no rfl rfl ?_
      refine wpO.no rfl rfl ?_
      refine wpO.no rfl rfl ?_
      refine wpO.val rfl (oper_pick (b := true) rfl rfl) rfl ?_
      refine wpO.nil ?_
      refine WpC.cond rfl (fun hb => ?_) (fun hb => ?_)
      ·
        refine WpC.seq ?_
        refine WpC.region (objR2 E) rfl ?_
        refine wpO.val rfl (oper_assign rfl) rfl ?_
        refine wpO.nil ?_
        have hr := Option.some.inj h
        subst hr
        exact WpC.ret ⟨_, rfl, rfl, _, _, _, .refl _, (.refl _), ⟨rfl, ws4, w5, rfl⟩, H31.sel [0, 1, 2] (by decide) rfl⟩
      ·
        cases hb
    ·
      obtain ⟨rfl, rfl⟩ := hr29
      replace h := if_t rfl h
      replace H30 : Has B0 S27 [.box b1 [v3, w5], nestA encdom_node dom_node.kids 7 5 v3 ws4 a2.l none, slkA w5 a2.freed] := H30
      have H33 : Has B0 S27 [.box b1 [v3, w5], nestA encdom_node dom_node.kids 7 5 v3 ws4 a2.l none, slkA w5 a2.freed] := H30.sel [0, 1, 2] (by decide) rfl
      refine wpO.val rfl (oper_assign rfl) rfl ?_
      refine wpO.val rfl (oper_assign rfl) rfl ?_
      refine wpO.nil ?_
      refine WpC.seq ?_
      refine WpC.seq ?_
      refine WpC.region (objR2 E) rfl ?_
      refine wpO.val rfl (oper_move rfl) rfl ?_
      obtain ⟨z34, hzz34, h⟩ := bind_some h
      refine wpO.val rfl (oper_eqN H33 (q := 1) rfl hzz34 rfl rfl up91) rfl ?_
      refine wpO.val rfl (oper_move rfl) rfl ?_
      refine wpO.val rfl (oper_move rfl) rfl ?_
      obtain ⟨z35, hzz35, h⟩ := bind_some h
      refine wpO.val rfl (oper_eqN H33 (q := 1) rfl hzz35 rfl rfl up91) rfl ?_
      refine wpO.val rfl (oper_pick (b := false) rfl rfl) rfl ?_
      refine wpO.val rfl (oper_move rfl) rfl ?_
      refine wpO.val rfl (oper_move rfl) rfl ?_
      refine wpO.val rfl (oper_nilCheckN H33 (q := 1) rfl hzz34 rfl) rfl ?_
      refine wpO.val rfl (oper_nestField H33 (i := 1) rfl hzz34 rfl fo90_1 nz9 rfl) rfl ?_
      refine wpO.nestLoadF H33 rfl (q := 1) rfl hzz34 rfl ag9 rfl rfl rfl ?_
      refine wpO.val rfl (oper_bin rfl rfl binD_seql) rfl ?_
      refine wpO.val rfl (oper_pick (b := false) rfl rfl) rfl ?_
      refine wpO.val rfl (oper_move rfl) rfl ?_
      refine wpO.groupV 3 33 (.d (.bool ((z34.tag == []) || (a7 == 1)))) ?_ ?_
      ·
        rcases Bool.eq_false_or_eq_true ((z34.tag == [])) with hB36 | hB36
        ·
          refine wpO.bool hB36 ?_
          refine wpO.no rfl rfl ?_
          refine wpO.no rfl rfl ?_
          refine wpO.val rfl (oper_pick (b := true) rfl rfl) rfl ?_
          exact wpO.nil ⟨_, rfl, (WeakE.put (WeakE.push rfl (WeakE.push rfl (WeakE.put (.refl _) (Less.eq (by rw [hB36]))))) (Less.eq (by rw [hB36]; rw [Bool.true_or])))⟩
        ·
          refine wpO.bool hB36 ?_
          refine wpO.val rfl (oper_move rfl) rfl ?_
          refine wpO.val rfl (oper_bin rfl rfl binD_eql) rfl ?_
          refine wpO.val rfl (oper_pick (b := false) rfl rfl) rfl ?_
          exact wpO.nil ⟨_, rfl, (WeakE.put (WeakE.push rfl (WeakE.push rfl (WeakE.put (.refl _) (Less.eq (by rw [hB36]))))) (Less.eq (by rw [hB36]; rw [Bool.false_or])))⟩
      ·
        refine wpO.val rfl (oper_move rfl) rfl ?_
        rcases Bool.eq_false_or_eq_true (((z34.tag == []) || (a7 == 1))) with hB37 | hB37
        ·
          replace h := if_t hB37 h
          refine wpO.bool hB37 ?_
          refine wpO.no rfl rfl ?_
          refine wpO.no rfl rfl ?_
          refine wpO.no rfl rfl ?_
          refine wpO.no rfl rfl ?_
          refine wpO.val rfl (oper_pick (b := true) rfl rfl) rfl ?_
          refine wpO.nil ?_
          refine WpC.cond rfl (fun hb => ?_) (fun hb => ?_)
          ·
            refine WpC.seq ?_
            refine WpC.region (objR2 E) rfl ?_
            refine wpO.val rfl (oper_assign rfl) rfl ?_
            refine wpO.nil ?_
            have hr := Option.some.inj h
            subst hr
            exact WpC.ret ⟨_, rfl, rfl, _, _, _, .refl _, (.refl _), ⟨rfl, ws4, w5, rfl⟩, H33.sel [0, 1, 2] (by decide) rfl⟩
          ·
            cases hb
        ·
          replace h := if_f hB37 h
          refine wpO.bool hB37 ?_
          refine wpO.val rfl (oper_move rfl) rfl ?_
          refine wpO.val rfl (oper_move rfl) rfl ?_
          refine wpO.val rfl (oper_move rfl) rfl ?_
          obtain ⟨z38, hzz38, h⟩ := bind_some h
          refine wpO.retM (ins := [.box b1 [v3, w5], nestA encdom_node dom_node.kids 7 5 v3 ws4 a2.l none, slkA w5 a2.freed]) (more := []) (H33.sel [0, 1, 2] (by decide) rfl) rfl (oper_callF rfl rfl) (dom_Dom_within_ok E n _ _ _ _ hzz38 b1 v3 ws4 w5) (.cons (.refl _) (.cons (.refl _) (.cons (.refl _) .nil))) rfl ?_
          rintro _ S39 _ ⟨rfl, rfl⟩ H40
          replace H40 : Has B0 S39 [.box b1 [v3, w5], nestA encdom_node dom_node.kids 7 5 v3 ws4 a2.l none, slkA w5 a2.freed] := H40
          have H41 : Has B0 S39 [.box b1 [v3, w5], nestA encdom_node dom_node.kids 7 5 v3 ws4 a2.l none, slkA w5 a2.freed] := H40.sel [0, 1, 2] (by decide) rfl
          refine wpO.val rfl (oper_pick (b := false) rfl rfl) rfl ?_
          refine wpO.nil ?_
          refine WpC.cond rfl (fun hb42 => ?_) (fun hb42 => ?_)
          ·
            replace h := if_t hb42 h
            refine WpC.seq ?_
            refine WpC.region (objR2 E) rfl ?_
            refine wpO.val rfl (oper_assign rfl) rfl ?_
            refine wpO.nil ?_
            have hr := Option.some.inj h
            subst hr
            exact WpC.ret ⟨_, rfl, rfl, _, _, _, .refl _, (.refl _), ⟨rfl, ws4, w5, rfl⟩, H41.sel [0, 1, 2] (by decide) rfl⟩
          ·
            replace h := if_f hb42 h
            refine WpC.skip ?_
            refine WpC.seq ?_
            refine WpC.region (objR2 E) rfl ?_
            refine wpO.val rfl (oper_move rfl) rfl ?_
            refine wpO.val rfl (oper_move rfl) rfl ?_
            obtain ⟨z43, hzz43, h⟩ := bind_some h
            refine wpO.retM (ins := [.box b1 [v3, w5], nestA encdom_node dom_node.kids 7 5 v3 ws4 a2.l none, slkA w5 a2.freed]) (more := []) (H41.sel [0, 1, 2] (by decide) rfl) rfl (oper_callF rfl rfl) (dom_Dom_leave_ok E n _ _ _ hzz43 b1 v3 ws4 w5) (.cons (.refl _) (.cons (.refl _) .nil)) rfl ?_
            rintro _ S46 _ ⟨rfl, ws44, w45, rfl⟩ H47
            replace H47 : Has B0 S46 [.box b1 [v3, w45], nestA encdom_node dom_node.kids 7 5 v3 ws44 z43.l none, slkA w45 z43.freed] := H47
            have H48 : Has B0 S46 [.box b1 [v3, w45], nestA encdom_node dom_node.kids 7 5 v3 ws44 z43.l none, slkA w45 z43.freed] := H47.sel [0, 1, 2] (by decide) rfl
            refine wpO.nil ?_
            refine WpC.seq ?_
            obtain ⟨z49, hzz49, h⟩ := bind_some h
            obtain ⟨z56, hzz56, h⟩ := bind_some h
            refine WpC.drawP (objR2 E) hmix [[(9, none)], [(9, none)], [(44, some 1)], [(45, some 2)], [(46, some 3)], [(3, none)], [(9, none)], [(49, some 6)], [(50, some 7)], [(51, some 8)], [(52, some 9)], [(48, some 5), (53, some 10)], [(54, some 11)], [(2, none)], [(56, some 13)], [(47, some 4), (55, some 12), (57, some 14)], [(43, some 0)], [(59, some 16)], [(58, some 15), (60, some 17)]] [(1, none), (10, none)] (by kernel_rfl) [14, 15, 18] (by decide) [some (rowPtr v3 (Int.toNat (IntKind.wrap .i64 (a6 - 1))) 0), some (rowPtr v3 (Int.toNat (IntKind.wrap .i64 (a6 - 1))) 0), some (rowPtr v3 (Int.toNat (IntKind.wrap .i64 (a6 - 1))) 0), some (rowPtr v3 (Int.toNat (IntKind.wrap .i64 (a6 - 1))) 5), some (kwAt 5 ws44 (Int.toNat (IntKind.wrap .i64 (a6 - 1)))), some (.d (.int .i64 a8)), some (rowPtr v3 (Int.toNat (IntKind.wrap .i64 (a6 - 1))) 0), some (rowPtr v3 (Int.toNat (IntKind.wrap .i64 (a6 - 1))) 0), some (rowPtr v3 (Int.toNat (IntKind.wrap .i64 (a6 - 1))) 5), some (kwAt 5 ws44 (Int.toNat (IntKind.wrap .i64 (a6 - 1)))), some (.d (.int .i64 ((z49.kids).length : Int))), some (.d (.int .i64 (minI a8 ((z49.kids).length : Int)))), some (.d (.int .i64 (maxI 0 (minI a8 ((z49.kids).length : Int))))), some (.d (.int .i64 a7)), none, none, none, none, none] ?_
            refine ⟨[0, 1, 2, 3, 4, 5, 6, 7, 8, 9, 10, 11, 12, 13], by kernel_rfl, ?_, _, _, rfl, rfl, .step ?_⟩
            ·
              refine .cons rfl rfl rfl (.step ?_) ?_
              ·
                refine wpO.val rfl (oper_move rfl) rfl ?_
                exact wpO.nil ⟨_, _, rfl, fun _ ht => by cases ht; exact ⟨rfl, .refl _⟩⟩
              refine .cons rfl rfl rfl (.step ?_) ?_
              ·
                refine wpO.val rfl (oper_move rfl) rfl ?_
                exact wpO.nil ⟨_, _, rfl, fun _ ht => by cases ht; exact ⟨rfl, .refl _⟩⟩
              refine .cons rfl rfl rfl (.step ?_) ?_
              ·
                refine wpO.val rfl (oper_nilCheckN H48 (q := 1) rfl hzz49 rfl) rfl ?_
                exact wpO.nil ⟨_, _, rfl, fun _ ht => by cases ht; exact ⟨rfl, .refl _⟩⟩
              refine .cons rfl rfl rfl (.step ?_) ?_
              ·
                refine wpO.val rfl (oper_nestField H48 (i := 1) rfl hzz49 rfl fo90_5 nz31 rfl) rfl ?_
                exact wpO.nil ⟨_, _, rfl, fun _ ht => by cases ht; exact ⟨rfl, .refl _⟩⟩
              refine .cons rfl rfl rfl (.step ?_) ?_
              ·
                refine wpO.val rfl (oper_nestLoadK H48 (i := 1) rfl hzz49 rfl ag31) rfl ?_
                exact wpO.nil ⟨_, _, rfl, fun _ ht => by cases ht; exact ⟨rfl, .refl _⟩⟩
              refine .cons rfl rfl rfl (.step ?_) ?_
              ·
                refine wpO.val rfl (oper_move rfl) rfl ?_
                exact wpO.nil ⟨_, _, rfl, fun _ ht => by cases ht; exact ⟨rfl, .refl _⟩⟩
              refine .cons rfl rfl rfl (.step ?_) ?_
              ·
                refine wpO.val rfl (oper_move rfl) rfl ?_
                exact wpO.nil ⟨_, _, rfl, fun _ ht => by cases ht; exact ⟨rfl, .refl _⟩⟩
              refine .cons rfl rfl rfl (.step ?_) ?_
              ·
                refine wpO.val rfl (oper_nilCheckN H48 (q := 1) rfl hzz49 rfl) rfl ?_
                exact wpO.nil ⟨_, _, rfl, fun _ ht => by cases ht; exact ⟨rfl, .refl _⟩⟩
              refine .cons rfl rfl rfl (.step ?_) ?_
              ·
                refine wpO.val rfl (oper_nestField H48 (i := 1) rfl hzz49 rfl fo90_5 nz31 rfl) rfl ?_
                exact wpO.nil ⟨_, _, rfl, fun _ ht => by cases ht; exact ⟨rfl, .refl _⟩⟩
              refine .cons rfl rfl rfl (.step ?_) ?_
              ·
                refine wpO.val rfl (oper_nestLoadK H48 (i := 1) rfl hzz49 rfl ag31) rfl ?_
                exact wpO.nil ⟨_, _, rfl, fun _ ht => by cases ht; exact ⟨rfl, .refl _⟩⟩
              refine .cons rfl rfl rfl (.step ?_) ?_
              ·
                have H69 : Has B0 S46 ([nestA encdom_node dom_node.kids 7 5 v3 ws44 z43.l none] ++ [.box b1 [v3, w45], slkA w45 z43.freed]) := H48.sel [1, 0, 2] (by decide) rfl
                replace H69 : Has B0 S46 [nestA encdom_node dom_node.kids 7 5 v3 ws44 z43.l none, .box b1 [v3, w45], slkA w45 z43.freed] := H69
                have H70 := Has.take H69 (idx_some hzz49).2
                refine wpO.val rfl (oper_lenS H70 (i := 0) rfl rfl es31) rfl ?_
                exact wpO.nil ⟨_, _, rfl, fun _ ht => by cases ht; exact ⟨rfl, .refl _⟩⟩
              refine .cons rfl rfl rfl (.step ?_) ?_
              ·
                refine wpO.val rfl (oper_min rfl rfl) rfl ?_
                exact wpO.nil ⟨_, _, rfl, fun _ ht => by cases ht; exact ⟨rfl, .refl _⟩⟩
              refine .cons rfl rfl rfl (.step ?_) ?_
              ·
                refine wpO.val rfl (oper_max rfl rfl) rfl ?_
                exact wpO.nil ⟨_, _, rfl, fun _ ht => by cases ht; exact ⟨rfl, .refl _⟩⟩
              refine .cons rfl rfl rfl (.step ?_) ?_
              ·
                refine wpO.val rfl (oper_move rfl) rfl ?_
                exact wpO.nil ⟨_, _, rfl, fun _ ht => by cases ht; exact ⟨rfl, .refl _⟩⟩
              exact .nil
            refine wpO.rawBuild (vs := [(.d (.int .i64 a7))]) (cs := [[(.d (.int .i64 a7))]]) H48 rfl rw31R2 el31 as3 zo3 sz3 rfl (by decide) (.cons rfl rfl .nil) rfl rfl rfl (fun v69 S70 H71 => ?_)
            have H72 : Has B0 S70 [rawA 1 1 v69 [(.d (.int .i64 a7))], .box b1 [v3, w45], nestA encdom_node dom_node.kids 7 5 v3 ws44 z43.l none, slkA w45 z43.freed] := H71.sel [0, 1, 2, 3] (by decide) rfl
            refine wpO.nil ⟨_, _, _, rfl, (fun _ ht => by cases ht; rfl), [some (rowPtr v3 (Int.toNat (IntKind.wrap .i64 (a6 - 1))) 0), some (rowPtr v3 (Int.toNat (IntKind.wrap .i64 (a6 - 1))) 0), some (rowPtr v3 (Int.toNat (IntKind.wrap .i64 (a6 - 1))) 0), some (rowPtr v3 (Int.toNat (IntKind.wrap .i64 (a6 - 1))) 5), some (kwAt 5 ws44 (Int.toNat (IntKind.wrap .i64 (a6 - 1)))), some (.d (.int .i64 a8)), some (rowPtr v3 (Int.toNat (IntKind.wrap .i64 (a6 - 1))) 0), some (rowPtr v3 (Int.toNat (IntKind.wrap .i64 (a6 - 1))) 0), some (rowPtr v3 (Int.toNat (IntKind.wrap .i64 (a6 - 1))) 5), some (kwAt 5 ws44 (Int.toNat (IntKind.wrap .i64 (a6 - 1)))), some (.d (.int .i64 ((z49.kids).length : Int))), some (.d (.int .i64 (minI a8 ((z49.kids).length : Int)))), some (.d (.int .i64 (maxI 0 (minI a8 ((z49.kids).length : Int))))), some (.d (.int .i64 a7)), some v69, none, none, none, none], (.old (.refl _) (.old (.refl _) (.old (.refl _) (.old (.refl _) (.old (.refl _) (.old (.refl _) (.old (.refl _) (.old (.refl _) (.old (.refl _) (.old (.refl _) (.old (.refl _) (.old (.refl _) (.old (.refl _) (.old (.refl _) (.new (.new (.new (.new (.new .nil))))))))))))))))))), (fun _ ht => by cases ht; exact ⟨_, rfl, .refl _⟩), ?_⟩
            refine ⟨[0, 1, 2, 3, 4, 5, 6, 7, 8, 9, 10, 11, 12], by kernel_rfl, ?_, _, _, rfl, rfl, .step ?_⟩
            ·
              refine .cons rfl rfl rfl (.step ?_) ?_
              ·
                refine wpO.val rfl (oper_move rfl) rfl ?_
                exact wpO.nil ⟨_, _, rfl, fun _ ht => by cases ht; exact ⟨rfl, .refl _⟩⟩
              refine .cons rfl rfl rfl (.step ?_) ?_
              ·
                refine wpO.val rfl (oper_move rfl) rfl ?_
                exact wpO.nil ⟨_, _, rfl, fun _ ht => by cases ht; exact ⟨rfl, .refl _⟩⟩
              refine .cons rfl rfl rfl (.step ?_) ?_
              ·
                refine wpO.val rfl (oper_nilCheckN H72 (q := 2) rfl hzz49 rfl) rfl ?_
                exact wpO.nil ⟨_, _, rfl, fun _ ht => by cases ht; exact ⟨rfl, .refl _⟩⟩
              refine .cons rfl rfl rfl (.step ?_) ?_
              ·
                refine wpO.val rfl (oper_nestField H72 (i := 2) rfl hzz49 rfl fo90_5 nz31 rfl) rfl ?_
                exact wpO.nil ⟨_, _, rfl, fun _ ht => by cases ht; exact ⟨rfl, .refl _⟩⟩
              refine .cons rfl rfl rfl (.step ?_) ?_
              ·
                refine wpO.val rfl (oper_nestLoadK H72 (i := 2) rfl hzz49 rfl ag31) rfl ?_
                exact wpO.nil ⟨_, _, rfl, fun _ ht => by cases ht; exact ⟨rfl, .refl _⟩⟩
              refine .cons rfl rfl rfl (.step ?_) ?_
              ·
                refine wpO.val rfl (oper_move rfl) rfl ?_
                exact wpO.nil ⟨_, _, rfl, fun _ ht => by cases ht; exact ⟨rfl, .refl _⟩⟩
              refine .cons rfl rfl rfl (.step ?_) ?_
              ·
                refine wpO.val rfl (oper_move rfl) rfl ?_
                exact wpO.nil ⟨_, _, rfl, fun _ ht => by cases ht; exact ⟨rfl, .refl _⟩⟩
              refine .cons rfl rfl rfl (.step ?_) ?_
              ·
                refine wpO.val rfl (oper_nilCheckN H72 (q := 2) rfl hzz49 rfl) rfl ?_
                exact wpO.nil ⟨_, _, rfl, fun _ ht => by cases ht; exact ⟨rfl, .refl _⟩⟩
              refine .cons rfl rfl rfl (.step ?_) ?_
              ·
                refine wpO.val rfl (oper_nestField H72 (i := 2) rfl hzz49 rfl fo90_5 nz31 rfl) rfl ?_
                exact wpO.nil ⟨_, _, rfl, fun _ ht => by cases ht; exact ⟨rfl, .refl _⟩⟩
              refine .cons rfl rfl rfl (.step ?_) ?_
              ·
                refine wpO.val rfl (oper_nestLoadK H72 (i := 2) rfl hzz49 rfl ag31) rfl ?_
                exact wpO.nil ⟨_, _, rfl, fun _ ht => by cases ht; exact ⟨rfl, .refl _⟩⟩
              refine .cons rfl rfl rfl (.step ?_) ?_
              ·
                have H73 : Has B0 S70 ([nestA encdom_node dom_node.kids 7 5 v3 ws44 z43.l none] ++ [rawA 1 1 v69 [(.d (.int .i64 a7))], .box b1 [v3, w45], slkA w45 z43.freed]) := H72.sel [2, 0, 1, 3] (by decide) rfl
                replace H73 : Has B0 S70 [nestA encdom_node dom_node.kids 7 5 v3 ws44 z43.l none, rawA 1 1 v69 [(.d (.int .i64 a7))], .box b1 [v3, w45], slkA w45 z43.freed] := H73
                have H74 := Has.take H73 (idx_some hzz49).2
                refine wpO.val rfl (oper_lenS H74 (i := 0) rfl rfl es31) rfl ?_
                exact wpO.nil ⟨_, _, rfl, fun _ ht => by cases ht; exact ⟨rfl, .refl _⟩⟩
              refine .cons rfl rfl rfl (.step ?_) ?_
              ·
                refine wpO.val rfl (oper_min rfl rfl) rfl ?_
                exact wpO.nil ⟨_, _, rfl, fun _ ht => by cases ht; exact ⟨rfl, .refl _⟩⟩
              refine .cons rfl rfl rfl (.step ?_) ?_
              ·
                refine wpO.val rfl (oper_max rfl rfl) rfl ?_
                exact wpO.nil ⟨_, _, rfl, fun _ ht => by cases ht; exact ⟨rfl, .refl _⟩⟩
              exact .nil
            have H73 : Has B0 S70 ([nestA encdom_node dom_node.kids 7 5 v3 ws44 z43.l none] ++ [rawA 1 1 v69 [(.d (.int .i64 a7))], .box b1 [v3, w45], slkA w45 z43.freed]) := H72.sel [2, 0, 1, 3] (by decide) rfl
            replace H73 : Has B0 S70 [nestA encdom_node dom_node.kids 7 5 v3 ws44 z43.l none, rawA 1 1 v69 [(.d (.int .i64 a7))], .box b1 [v3, w45], slkA w45 z43.freed] := H73
            have H74 := Has.take H73 (idx_some hzz49).2
            have H75 : Has B0 S70 [slkA (kwAt 5 ws44 (Int.toNat (IntKind.wrap .i64 (a6 - 1)))) z49.kids, rawA 1 1 v69 [(.d (.int .i64 a7))], .box b1 [v3, w45], nestA encdom_node dom_node.kids 7 5 v3 ws44 z43.l (some (Int.toNat (IntKind.wrap .i64 (a6 - 1)))), slkA w45 z43.freed] := H74.sel [0, 2, 3, 1, 4] (by decide) rfl
            refine wpO.retM (ins := [rawA 1 1 v69 [(.d (.int .i64 a7))], slkA (kwAt 5 ws44 (Int.toNat (IntKind.wrap .i64 (a6 - 1)))) z49.kids]) (more := [.box b1 [v3, w45], nestA encdom_node dom_node.kids 7 5 v3 ws44 z43.l (some (Int.toNat (IntKind.wrap .i64 (a6 - 1)))), slkA w45 z43.freed]) (H75.sel [1, 0, 2, 3, 4] (by decide) rfl) rfl (oper_callF rfl rfl) (SpecM.ins E.insp hzz56) (.cons (.refl _) (.cons (.refl _) (.cons (.refl _) .nil))) rfl ?_
            rintro v76 S77 _ rfl H78
            replace H78 : Has B0 S77 [slkA v76 z56, .box b1 [v3, w45], nestA encdom_node dom_node.kids 7 5 v3 ws44 z43.l (some (Int.toNat (IntKind.wrap .i64 (a6 - 1)))), slkA w45 z43.freed] := H78
            have H79 : Has B0 S77 [slkA v76 z56, .box b1 [v3, w45], nestA encdom_node dom_node.kids 7 5 v3 ws44 z43.l (some (Int.toNat (IntKind.wrap .i64 (a6 - 1)))), slkA w45 z43.freed] := H78.sel [0, 1, 2, 3] (by decide) rfl
            refine wpO.nil ⟨_, _, _, rfl, (fun _ ht => by cases ht; rfl), [some (rowPtr v3 (Int.toNat (IntKind.wrap .i64 (a6 - 1))) 0), some (rowPtr v3 (Int.toNat (IntKind.wrap .i64 (a6 - 1))) 0), some (rowPtr v3 (Int.toNat (IntKind.wrap .i64 (a6 - 1))) 0), some (rowPtr v3 (Int.toNat (IntKind.wrap .i64 (a6 - 1))) 5), some (kwAt 5 ws44 (Int.toNat (IntKind.wrap .i64 (a6 - 1)))), some (.d (.int .i64 a8)), some (rowPtr v3 (Int.toNat (IntKind.wrap .i64 (a6 - 1))) 0), some (rowPtr v3 (Int.toNat (IntKind.wrap .i64 (a6 - 1))) 0), some (rowPtr v3 (Int.toNat (IntKind.wrap .i64 (a6 - 1))) 5), some (kwAt 5 ws44 (Int.toNat (IntKind.wrap .i64 (a6 - 1)))), some (.d (.int .i64 ((z49.kids).length : Int))), some (.d (.int .i64 (minI a8 ((z49.kids).length : Int)))), some (.d (.int .i64 (maxI 0 (minI a8 ((z49.kids).length : Int))))), some (.d (.int .i64 a7)), some v69, some v76, some (rowPtr v3 (Int.toNat (IntKind.wrap .i64 (a6 - 1))) 0), some (rowPtr v3 (Int.toNat (IntKind.wrap .i64 (a6 - 1))) 5), none], (.old (.refl _) (.old (.refl _) (.old (.refl _) (.old (.refl _) (.old (.refl _) (.old (.refl _) (.old (.refl _) (.old (.refl _) (.old (.refl _) (.old (.refl _) (.old (.refl _) (.old (.refl _) (.old (.refl _) (.old (.refl _) (.old (.refl _) (.new (.new (.new (.new .nil))))))))))))))))))), (fun _ ht => by cases ht; exact ⟨_, rfl, .refl _⟩), ?_⟩
            refine ⟨[0, 16, 17], by kernel_rfl, ?_, _, _, rfl, rfl, .step ?_⟩
            ·
              refine .cons rfl rfl rfl (.step ?_) ?_
              ·
                refine wpO.val rfl (oper_move rfl) rfl ?_
                exact wpO.nil ⟨_, _, rfl, fun _ ht => by cases ht; exact ⟨rfl, .refl _⟩⟩
              refine .cons rfl rfl rfl (.step ?_) ?_
              ·
                refine wpO.val rfl (oper_nilCheckN H79 (q := 2) rfl hzz49 rfl) rfl ?_
                exact wpO.nil ⟨_, _, rfl, fun _ ht => by cases ht; exact ⟨rfl, .refl _⟩⟩
              refine .cons rfl rfl rfl (.step ?_) ?_
              ·
                refine wpO.val rfl (oper_nestField H79 (i := 2) rfl hzz49 rfl fo90_5 nz31 rfl) rfl ?_
                exact wpO.nil ⟨_, _, rfl, fun _ ht => by cases ht; exact ⟨rfl, .refl _⟩⟩
              exact .nil
            have H83 : Has B0 S77 ([slkA v76 z56, nestA encdom_node dom_node.kids 7 5 v3 ws44 z43.l (some (Int.toNat (IntKind.wrap .i64 (a6 - 1))))] ++ [.box b1 [v3, w45], slkA w45 z43.freed]) := H79.sel [0, 2, 1, 3] (by decide) rfl
            replace H83 : Has B0 S77 [slkA v76 z56, nestA encdom_node dom_node.kids 7 5 v3 ws44 z43.l (some (Int.toNat (IntKind.wrap .i64 (a6 - 1)))), .box b1 [v3, w45], slkA w45 z43.freed] := H83
            refine wpO.nestStoreK (z' := (dom_node.mk z49.lives z49.tag z49.key z49.text z49.attrs z56 z49.parent)) (c := .sl ((z56).map (D.int .i64)) false) H83 rfl hzz49 (.inr rfl) rfl rfl sz31 as31 rfl rfl rfl (fun ws82 S80 H81 => ?_)
            have H84 : Has B0 S80 [.box b1 [v3, w45], nestA encdom_node dom_node.kids 7 5 v3 ws82 (setI z43.l (IntKind.wrap .i64 (a6 - 1)) (dom_node.mk z49.lives z49.tag z49.key z49.text z49.attrs z56 z49.parent)) none, slkA w45 z43.freed] := H81.sel [1, 0, 2] (by decide) rfl
            refine wpO.nil ⟨_, .any, _, rfl, (fun _ ht => by cases ht), [some (rowPtr v3 (Int.toNat (IntKind.wrap .i64 (a6 - 1))) 0), some (rowPtr v3 (Int.toNat (IntKind.wrap .i64 (a6 - 1))) 0), some (rowPtr v3 (Int.toNat (IntKind.wrap .i64 (a6 - 1))) 0), some (rowPtr v3 (Int.toNat (IntKind.wrap .i64 (a6 - 1))) 5), some (kwAt 5 ws44 (Int.toNat (IntKind.wrap .i64 (a6 - 1)))), some (.d (.int .i64 a8)), some (rowPtr v3 (Int.toNat (IntKind.wrap .i64 (a6 - 1))) 0), some (rowPtr v3 (Int.toNat (IntKind.wrap .i64 (a6 - 1))) 0), some (rowPtr v3 (Int.toNat (IntKind.wrap .i64 (a6 - 1))) 5), some (kwAt 5 ws44 (Int.toNat (IntKind.wrap .i64 (a6 - 1)))), some (.d (.int .i64 ((z49.kids).length : Int))), some (.d (.int .i64 (minI a8 ((z49.kids).length : Int)))), some (.d (.int .i64 (maxI 0 (minI a8 ((z49.kids).length : Int))))), some (.d (.int .i64 a7)), some v69, some v76, some (rowPtr v3 (Int.toNat (IntKind.wrap .i64 (a6 - 1))) 0), some (rowPtr v3 (Int.toNat (IntKind.wrap .i64 (a6 - 1))) 5), some .any], (.old (.refl _) (.old (.refl _) (.old (.refl _) (.old (.refl _) (.old (.refl _) (.old (.refl _) (.old (.refl _) (.old (.refl _) (.old (.refl _) (.old (.refl _) (.old (.refl _) (.old (.refl _) (.old (.refl _) (.old (.refl _) (.old (.refl _) (.old (.refl _) (.old (.refl _) (.old (.refl _) (.new .nil))))))))))))))))))), (fun _ ht => by cases ht), ?_⟩
            refine ⟨[], by kernel_rfl, ?_, _, rfl, ?_⟩
            ·
              exact .nil
            refine WpC.seq ?_
            refine WpC.region (objR2 E) rfl ?_
            refine wpO.val rfl (oper_move rfl) rfl ?_
            refine wpO.val rfl (oper_move rfl) rfl ?_
            obtain ⟨z85, hzz85, h⟩ := bind_some h
            refine wpO.val rfl (oper_nilCheckN H84 (q := 1) rfl hzz85 rfl) rfl ?_
            refine wpO.val rfl (oper_nestField H84 (i := 1) rfl hzz85 rfl fo90_6 nz3 rfl) rfl ?_
            have H89 : Has B0 S80 ([nestA encdom_node dom_node.kids 7 5 v3 ws82 (setI z43.l (IntKind.wrap .i64 (a6 - 1)) (dom_node.mk z49.lives z49.tag z49.key z49.text z49.attrs z56 z49.parent)) none] ++ [.box b1 [v3, w45], slkA w45 z43.freed]) := H84.sel [1, 0, 2] (by decide) rfl
            replace H89 : Has B0 S80 [nestA encdom_node dom_node.kids 7 5 v3 ws82 (setI z43.l (IntKind.wrap .i64 (a6 - 1)) (dom_node.mk z49.lives z49.tag z49.key z49.text z49.attrs z56 z49.parent)) none, .box b1 [v3, w45], slkA w45 z43.freed] := H89
            refine wpO.nestStoreF (z' := (dom_node.mk z85.lives z85.tag z85.key z85.text z85.attrs z85.kids a6)) H89 rfl hzz85 rfl rfl rfl rfl (.refl _) sz3 as3 rfl rfl rfl rfl rfl (fun ws88 S86 H87 => ?_)
            have H90 : Has B0 S86 [.box b1 [v3, w45], nestA encdom_node dom_node.kids 7 5 v3 ws88 (setI (setI z43.l (IntKind.wrap .i64 (a6 - 1)) (dom_node.mk z49.lives z49.tag z49.key z49.text z49.attrs z56 z49.parent)) (IntKind.wrap .i64 (a7 - 1)) (dom_node.mk z85.lives z85.tag z85.key z85.text z85.attrs z85.kids a6)) none, slkA w45 z43.freed] := H87.sel [1, 0, 2] (by decide) rfl
            refine wpO.nil ?_
            refine WpC.seq ?_
            refine WpC.region (objR2 E) rfl ?_
            refine wpO.val rfl (oper_assign rfl) rfl ?_
            refine wpO.nil ?_
            have hr := Option.some.inj h
            subst hr
            exact WpC.ret ⟨_, rfl, rfl, _, _, _, .refl _, (.refl _), ⟨rfl, ws88, w45, rfl⟩, H90.sel [0, 1, 2] (by decide) rfl⟩
set_option maxRecDepth 20000 in
set_option maxHeartbeats 4000000 in
theorem dom_Dom_Loose_ok (n : Nat) (a2 : dom_Dom) (r : (List Int)) (h : dom_Dom_Loose n a2 = some r) (b1 : Nat) (v3 : AV) (ws4 : List (List AV)) (w5 : AV) : SpecM R cfg.P 18 [.ptr b1 0 0] [.box b1 [v3, w5], nestA encdom_node dom_node.kids 7 5 v3 ws4 a2.l none, slkA w5 a2.freed] (fun v l => v = .d (.sl ((r).map (D.int .i64)) false) ∧ l = [.box b1 [v3, w5], nestA encdom_node dom_node.kids 7 5 v3 ws4 a2.l none, slkA w5 a2.freed]) := by
  unfold dom_Dom_Loose at h
  refine SpecM.of_wp (C := cfg) Try.func18 rfl nm18 rfl (fun B0 S0 H0 => ?_)
  replace H0 : Has B0 S0 [.box b1 [v3, w5], nestA encdom_node dom_node.kids 7 5 v3 ws4 a2.l none, slkA w5 a2.freed] := H0
  refine WpC.seq ?_
  refine WpC.region E.obj rfl ?_
  refine wpO.val rfl (oper_assign rfl) rfl ?_
  refine wpO.nil ?_
  refine WpC.seq ?_
  refine WpC.region E.obj rfl ?_
  refine wpO.val rfl (oper_assign rfl) rfl ?_
  refine wpO.nil ?_
  refine WpC.seq ?_
  refine WpC.seq ?_
  refine WpC.region E.obj rfl ?_
  refine wpO.val rfl (oper_move rfl) rfl ?_
  refine wpO.val rfl (oper_nilCheck rfl) rfl ?_
  refine wpO.val rfl (oper_fieldAddr rfl fo87_0 nz85 rfl) rfl ?_
  refine wpO.val rfl (oper_load H0 (i := 0) rfl rfl (part_one ag85 rfl)) rfl ?_
  refine wpO.val rfl (oper_lenN H0 (i := 1) rfl rfl es85) rfl ?_
  refine wpO.val rfl (oper_move rfl) rfl ?_
  refine wpO.nil ?_
  refine WpC.block ?_
  have H38 := H0.nilG
  refine WpL.start (B := B0) (α := (List Int) × AV × Int) (fun k a => dom_Dom_Loose_l18 a2 k a.1 a.2.2 = some r) (fun a => [(3, a.2.1), (10, v3), (11, (.d (.int .i64 ((a2.l).length : Int)))), (12, (.d (.int .i64 a.2.2)))]) (fun a => [.grow a.2.1 ((a.1).map (D.int .i64)), .box b1 [v3, w5], nestA encdom_node dom_node.kids 7 5 v3 ws4 a2.l none, slkA w5 a2.freed]) ?_ ?_ n ⟨⟨[], (.d .nils), 0⟩, _, _, S0, .refl _ _, .refl _, (WeakE.cons rfl (.refl _) (WeakE.cons rfl (.refl _) (WeakE.cons rfl (.refl _) (WeakE.cons rfl (.refl _) WeakE.nil)))), H38.sel [0, 1, 2, 3] (by decide) rfl, h⟩
  · intro a h; simp [dom_Dom_Loose_l18] at h
  ·
    intro k18 a S13 H14 h
    obtain ⟨x15, v16, x17⟩ := a
    replace h : dom_Dom_Loose_l18 a2 (k18 + 1) x15 x17 = some r := h
    replace H14 : Has B0 S13 [.grow v16 ((x15).map (D.int .i64)), .box b1 [v3, w5], nestA encdom_node dom_node.kids 7 5 v3 ws4 a2.l none, slkA w5 a2.freed] := H14
    unfold dom_Dom_Loose_l18 at h
    refine WpC.seq ?_
    refine WpC.region E.obj rfl ?_
    refine wpO.val rfl (oper_bin rfl rfl binD_lss) rfl ?_
    refine wpO.nil ?_
    refine WpC.seq ?_
    refine WpC.cond rfl (fun hb19 => ?_) (fun hb19 => ?_)
    ·
      replace h := if_t hb19 h
      refine WpC.skip ?_
      refine WpC.join (B := B0) (α := (List Int) × AV) (fun a => dom_Dom_Loose_j24 x17 (dom_Dom_Loose_l18 a2 k18) a.1 = some r) (fun a => [(3, a.2), (10, v3), (11, (.d (.int .i64 ((a2.l).length : Int)))), (12, (.d (.int .i64 x17)))]) (fun a => [.grow a.2 ((a.1).map (D.int .i64)), .box b1 [v3, w5], nestA encdom_node dom_node.kids 7 5 v3 ws4 a2.l none, slkA w5 a2.freed]) ?_ ?_
      ·
        intro a S20 H21 h
        obtain ⟨x22, v23⟩ := a
        replace h : dom_Dom_Loose_j24 x17 (dom_Dom_Loose_l18 a2 k18) x22 = some r := h
        replace H21 : Has B0 S20 [.grow v23 ((x22).map (D.int .i64)), .box b1 [v3, w5], nestA encdom_node dom_node.kids 7 5 v3 ws4 a2.l none, slkA w5 a2.freed] := H21
        unfold dom_Dom_Loose_j24 at h
        refine WpC.region E.obj rfl ?_
        refine wpO.val rfl (oper_bin rfl rfl binD_add) rfl ?_
        refine wpO.val rfl (oper_move rfl) rfl ?_
        refine wpO.nil ?_
        exact ⟨⟨x22, v23, (IntKind.wrap .i64 (x17 + 1))⟩, _, _, S20, .refl _ _, .refl _, (WeakE.cons rfl (.refl _) (WeakE.cons rfl (.refl _) (WeakE.cons rfl (.refl _) (WeakE.cons rfl (.refl _) WeakE.nil)))), H21.sel [0, 1, 2, 3] (by decide) rfl, h⟩
      ·
        refine WpC.block ?_
        refine WpC.seq ?_
        refine WpC.region E.obj rfl ?_
        refine wpO.val rfl (oper_move rfl) rfl ?_
        obtain ⟨z25, hzz25, h⟩ := bind_some h
        refine wpO.val rfl (oper_nestIdx H14 (i := 2) rfl hzz25 rfl rfl el85 as90 sz90) rfl ?_
        refine wpO.nestLoadW (cs := [(.d (.bool z25.lives)), (.d (.str z25.tag)), (.d (.str z25.key)), (.d (.str z25.text)), (.d (.sl ((z25.attrs).map encAttr) false)), (kwAt 5 ws4 (Int.toNat x17)), (.d (.int .i64 z25.parent))]) H14 rfl (q := 2) rfl hzz25 rfl ag90 sz90 rfl rfl ?_
        refine wpO.alloc H14 rfl ob90 zo90 rfl rfl (fun b26 S27 H28 => ?_)
        refine wpO.val rfl (oper_assign rfl) rfl ?_
        refine wpO.store H28 (i := 0) rfl rfl rfl rfl (mkAgg_cells _) rfl sz90 (mkAgg_plain _) as90 rfl rfl rfl (fun S29 H30 => ?_)
        refine wpO.nil ?_
        refine WpC.seq ?_
        refine WpC.region E.obj rfl ?_
        refine wpO.val rfl (oper_move rfl) rfl ?_
        refine wpO.val rfl (oper_bin rfl rfl binD_add) rfl ?_
        refine wpO.val rfl (oper_assign rfl) rfl ?_
        refine wpO.nil ?_
        refine WpC.seq ?_
        refine WpC.region E.obj rfl ?_
        refine wpO.val rfl (oper_fieldAddr rfl fo90_0 nz4 rfl) rfl ?_
        refine wpO.val rfl (oper_load H30 (i := 0) rfl rfl (part_one ag4 rfl)) rfl ?_
        refine wpO.val rfl (oper_move rfl) rfl ?_
        refine wpO.groupV 4 25 (.d (.bool (z25.lives && (z25.parent == 0)))) ?_ ?_
        ·
          rcases Bool.eq_false_or_eq_true (z25.lives) with hB31 | hB31
          ·
            refine wpO.bool hB31 ?_
            refine wpO.val rfl (oper_fieldAddr rfl fo90_6 nz3 rfl) rfl ?_
            refine wpO.val rfl (oper_load H30 (i := 0) rfl rfl (part_one ag3 rfl)) rfl ?_
            refine wpO.val rfl (oper_bin rfl rfl binD_eql) rfl ?_
            refine wpO.val rfl (oper_pick (b := true) rfl rfl) rfl ?_
            exact wpO.nil ⟨_, rfl, (WeakE.put (WeakE.push rfl (WeakE.push rfl (WeakE.push rfl (WeakE.put (.refl _) (Less.eq (by rw [hB31])))))) (Less.eq (by rw [hB31]; rw [Bool.true_and])))⟩
          ·
            refine wpO.bool hB31 ?_
            refine wpO.no rfl rfl ?_
            refine wpO.no rfl rfl ?_
            refine wpO.no rfl rfl ?_
            refine wpO.val rfl (oper_pick (b := false) rfl rfl) rfl ?_
            exact wpO.nil ⟨_, rfl, (WeakE.put (WeakE.push rfl (WeakE.push rfl (WeakE.push rfl (WeakE.put (.refl _) (Less.eq (by rw [hB31])))))) (Less.eq (by rw [hB31]; rw [Bool.false_and])))⟩
        ·
          refine wpO.val rfl (oper_move rfl) rfl ?_
          refine wpO.groupV 3 29 (.d (.bool ((z25.lives && (z25.parent == 0)) && ((IntKind.wrap .i64 (x17 + 1)) != 1)))) ?_ ?_
          ·
            rcases Bool.eq_false_or_eq_true ((z25.lives && (z25.parent == 0))) with hB32 | hB32
            ·
              refine wpO.bool hB32 ?_
              refine wpO.val rfl (oper_move rfl) rfl ?_
              refine wpO.val rfl (oper_bin rfl rfl binD_neq) rfl ?_
              refine wpO.val rfl (oper_pick (b := true) rfl rfl) rfl ?_
              exact wpO.nil ⟨_, rfl, (WeakE.put (WeakE.push rfl (WeakE.push rfl (WeakE.put (.refl _) (Less.eq (by rw [hB32]))))) (Less.eq (by rw [hB32]; rw [Bool.true_and])))⟩
            ·
              refine wpO.bool hB32 ?_
              refine wpO.no rfl rfl ?_
              refine wpO.no rfl rfl ?_
              refine wpO.val rfl (oper_pick (b := false) rfl rfl) rfl ?_
              exact wpO.nil ⟨_, rfl, (WeakE.put (WeakE.push rfl (WeakE.push rfl (WeakE.put (.refl _) (Less.eq (by rw [hB32]))))) (Less.eq (by rw [hB32]; rw [Bool.false_and])))⟩
          ·
            refine wpO.nil ?_
            refine WpC.cond rfl (fun hb33 => ?_) (fun hb33 => ?_)
            ·
              replace h := if_t hb33 h
              refine WpC.region E.obj rfl ?_
              refine wpO.val rfl (oper_move rfl) rfl ?_
              refine wpO.val rfl (oper_move rfl) rfl ?_
              refine wpO.val rfl (oper_buildSlice (vs := [(.d (.int .i64 (IntKind.wrap .i64 (x17 + 1))))]) (ds := [(.int .i64 (IntKind.wrap .i64 (x17 + 1)))]) rw31 el31 ag3 zo3 sz3 rfl (by decide) (.cons rfl rfl .nil) rfl (by intro d hd; simp only [List.mem_cons, List.not_mem_nil, or_false] at hd; rcases hd with rfl <;> rfl) rfl) rfl ?_
              obtain ⟨z34, hzz34, h⟩ := bind_some h
              refine wpO.append (xs := (x15).map (D.int .i64)) (ys := ([(IntKind.wrap .i64 (x17 + 1))]).map (D.int .i64)) (zs := (z34).map (D.int .i64)) H30 rfl rfl rfl (i := 1) rfl rfl rw31 os31 el31 (app_bound hzz34) nb3 rfl (sizes_map (enc := (D.int .i64)) (fun _ => sz3.symm) _) (sizes_map (enc := (D.int .i64)) (fun _ => sz3.symm) _) zk3 rfl (app_eq hzz34) (fun v35 S36 H37 => ?_)
              refine wpO.val rfl (oper_assign rfl) rfl ?_
              refine wpO.nil ?_
              exact ⟨⟨z34, v35⟩, _, _, S36, .refl _ _, .refl _, (WeakE.cons rfl (.refl _) (WeakE.cons rfl (.refl _) (WeakE.cons rfl (.refl _) (WeakE.cons rfl (.refl _) WeakE.nil)))), H37.sel [1, 2, 3, 4] (by decide) rfl, h⟩
            ·
              replace h := if_f hb33 h
              refine WpC.skip ?_
              exact ⟨⟨x15, v16⟩, _, _, S29, .refl _ _, .refl _, (WeakE.cons rfl (.refl _) (WeakE.cons rfl (.refl _) (WeakE.cons rfl (.refl _) (WeakE.cons rfl (.refl _) WeakE.nil)))), H30.sel [1, 2, 3, 4] (by decide) rfl, h⟩
    ·
      replace h := if_f hb19 h
      refine WpC.exit ?_
      refine WpC.seq ?_
      refine WpC.region E.obj rfl ?_
      refine wpO.val rfl (oper_move rfl) rfl ?_
      refine wpO.val rfl (oper_assign rfl) rfl ?_
      refine wpO.nil ?_
      have hr := Option.some.inj h
      subst hr
      exact WpC.ret ⟨_, rfl, rfl, _, _, _, .refl _, (growL H14 (i := 0) rfl), ⟨rfl, rfl⟩, H14.sel [1, 2, 3] (by decide) rfl⟩
theorem slices_Clone__int_int__okK (n : Nat) (a1 : List Int) (r : List Int) (h : slices_Clone__int_int_ n a1 = some r) (w : AV) : SpecM R cfg.P 64 [w] [slkA w a1] (fun v l => l = [.row 1 v ((r).map (D.int .i64)), slkA w a1]) := by
  unfold slices_Clone__int_int_ at h
  refine SpecM.of_wp (C := cfgR2) Try.func64 rfl nm64 rfl (fun B0 S0 H0 => ?_)
  refine WpC.seq ?_
  refine WpC.region (objR2 E) rfl ?_
  refine wpO.val rfl (oper_assign rfl) rfl ?_
  refine wpO.nil ?_
  refine WpC.seq ?_
  refine WpC.seq ?_
  refine WpC.region (objR2 E) rfl ?_
  refine wpO.val rfl (oper_move rfl) rfl ?_
  refine wpO.slkEqNil H0 rfl rfl rfl us31s rfl (fun bb hbb hbn => ?_)
  refine wpO.nil ?_
  refine WpC.cond rfl (fun hb => ?_) (fun hb => ?_)
  · have e := hbb hb
    subst e
    have hr := (app_some h).2
    subst hr
    refine WpC.seq ?_
    refine WpC.region (objR2 E) rfl ?_
    refine wpO.val rfl (oper_assign rfl) rfl ?_
    refine wpO.nil ?_
    exact WpC.ret ⟨_, rfl, rfl, _, _, _, .refl _, .refl _, rfl, H0.nilR 1⟩
  · refine WpC.skip ?_
    refine WpC.seq ?_
    refine WpC.region (objR2 E) rfl ?_
    refine wpO.val rfl (oper_buildSlice0R bs31xR2 el31 ag3) rfl ?_
    refine wpO.val rfl (oper_move rfl) rfl ?_
    refine wpO.slkClone H0 rfl (hbn hb) rfl rfl rw31R2 os31R2 el31 sz3 h nb3 rfl zk3R2 rfl (fun v2 S2 H2 => ?_)
    refine wpO.val rfl (oper_assign rfl) rfl ?_
    refine wpO.nil ?_
    exact WpC.ret ⟨_, rfl, rfl, _, _, _, .refl _, .refl _, rfl, H2⟩
set_option maxRecDepth 20000 in
set_option maxHeartbeats 4000000 in
theorem dom_Dom_Kids_ok (n : Nat) (a2 : dom_Dom) (a6 : Int) (r : (List Int)) (h : dom_Dom_Kids n a2 a6 = some r) (b1 : Nat) (v3 : AV) (ws4 : List (List AV)) (w5 : AV) : SpecM R cfg.P 19 [.ptr b1 0 0, .d (.int .i64 a6)] [.box b1 [v3, w5], nestA encdom_node dom_node.kids 7 5 v3 ws4 a2.l none, slkA w5 a2.freed] (fun v l => v = .d (.sl ((r).map (D.int .i64)) false) ∧ l = [.box b1 [v3, w5], nestA encdom_node dom_node.kids 7 5 v3 ws4 a2.l none, slkA w5 a2.freed]) := by
  unfold dom_Dom_Kids at h
  refine SpecM.of_wp (C := cfg) Try.func19 rfl nm19 rfl (fun B0 S0 H0 => ?_)
  replace H0 : Has B0 S0 [.box b1 [v3, w5], nestA encdom_node dom_node.kids 7 5 v3 ws4 a2.l none, slkA w5 a2.freed] := H0
  refine WpC.seq ?_
  refine WpC.region E.obj rfl ?_
  refine wpO.val rfl (oper_assign rfl) rfl ?_
  refine wpO.nil ?_
  refine WpC.seq ?_
  refine WpC.region E.obj rfl ?_
  refine wpO.val rfl (oper_move rfl) rfl ?_
  refine wpO.val rfl (oper_move rfl) rfl ?_
  obtain ⟨z7, hzz7, h⟩ := bind_some h
  refine wpO.retM (ins := [.box b1 [v3, w5], nestA encdom_node dom_node.kids 7 5 v3 ws4 a2.l none, slkA w5 a2.freed]) (more := []) (H0.sel [0, 1, 2] (by decide) rfl) rfl (oper_callF rfl rfl) (dom_Dom_at_ok E n _ _ _ hzz7 b1 v3 ws4 w5) (.cons (.refl _) (.cons (.refl _) .nil)) rfl ?_
  rintro v8 S9 l10 hr11 H12
  rcases z7 with _ | _
  ·
    obtain ⟨rfl, rfl⟩ := hr11
    replace h := if_f rfl h
    replace H12 : Has B0 S9 [.box b1 [v3, w5], nestA encdom_node dom_node.kids 7 5 v3 ws4 a2.l none, slkA w5 a2.freed] := H12
    have H13 : Has B0 S9 [.box b1 [v3, w5], nestA encdom_node dom_node.kids 7 5 v3 ws4 a2.l none, slkA w5 a2.freed] := H12.sel [0, 1, 2] (by decide) rfl
    refine wpO.val rfl (oper_assign rfl) rfl ?_
    refine wpO.nil ?_
    refine WpC.seq ?_
    refine WpC.seq ?_
    refine WpC.region E.obj rfl ?_
    refine wpO.val rfl (oper_move rfl) rfl ?_
    refine wpO.val rfl (oper_bin rfl rfl (binD_nn up91)) rfl ?_
    refine wpO.nil ?_
    refine WpC.cond rfl (fun hb => ?_) (fun hb => ?_)
    ·
      refine WpC.seq ?_
      refine WpC.region E.obj rfl ?_
      refine wpO.val rfl (oper_assign rfl) rfl ?_
      refine wpO.nil ?_
      have hr := Option.some.inj h
      subst hr
      exact WpC.ret ⟨_, rfl, rfl, _, _, _, .refl _, nilL, ⟨rfl, rfl⟩, H13.sel [0, 1, 2] (by decide) rfl⟩
    ·
      cases hb
  ·
    obtain ⟨rfl, rfl⟩ := hr11
    replace h := if_t rfl h
    replace H12 : Has B0 S9 [.box b1 [v3, w5], nestA encdom_node dom_node.kids 7 5 v3 ws4 a2.l none, slkA w5 a2.freed] := H12
    have H14 : Has B0 S9 [.box b1 [v3, w5], nestA encdom_node dom_node.kids 7 5 v3 ws4 a2.l none, slkA w5 a2.freed] := H12.sel [0, 1, 2] (by decide) rfl
    refine wpO.val rfl (oper_assign rfl) rfl ?_
    refine wpO.nil ?_
    refine WpC.seq ?_
    refine WpC.seq ?_
    refine WpC.region E.obj rfl ?_
    refine wpO.val rfl (oper_move rfl) rfl ?_
    obtain ⟨z15, hzz15, h⟩ := bind_some h
    refine wpO.val rfl (oper_eqN H14 (q := 1) rfl hzz15 rfl rfl up91) rfl ?_
    refine wpO.nil ?_
    refine WpC.cond rfl (fun hb => ?_) (fun hb => ?_)
    ·
      cases hb
    ·
      refine WpC.skip ?_
      refine WpC.seq ?_
      refine WpC.region E.obj rfl ?_
      refine wpO.val rfl (oper_move rfl) rfl ?_
      refine wpO.val rfl (oper_nilCheckN H14 (q := 1) rfl hzz15 rfl) rfl ?_
      refine wpO.val rfl (oper_nestField H14 (i := 1) rfl hzz15 rfl fo90_5 nz31 rfl) rfl ?_
      refine wpO.val rfl (oper_nestLoadK H14 (i := 1) rfl hzz15 rfl ag31) rfl ?_
      obtain ⟨z16, hzz16, h⟩ := bind_some h
      have H17 : Has B0 S9 ([nestA encdom_node dom_node.kids 7 5 v3 ws4 a2.l none] ++ [.box b1 [v3, w5], slkA w5 a2.freed]) := H14.sel [1, 0, 2] (by decide) rfl
      replace H17 : Has B0 S9 [nestA encdom_node dom_node.kids 7 5 v3 ws4 a2.l none, .box b1 [v3, w5], slkA w5 a2.freed] := H17
      have H18 := Has.take H17 (idx_some hzz15).2
      have H19 : Has B0 S9 [slkA (kwAt 5 ws4 (Int.toNat (IntKind.wrap .i64 (a6 - 1)))) z15.kids, .box b1 [v3, w5], nestA encdom_node dom_node.kids 7 5 v3 ws4 a2.l (some (Int.toNat (IntKind.wrap .i64 (a6 - 1)))), slkA w5 a2.freed] := H18.sel [0, 2, 1, 3] (by decide) rfl
      refine wpO.retM (ins := [slkA (kwAt 5 ws4 (Int.toNat (IntKind.wrap .i64 (a6 - 1)))) z15.kids]) (more := [.box b1 [v3, w5], nestA encdom_node dom_node.kids 7 5 v3 ws4 a2.l (some (Int.toNat (IntKind.wrap .i64 (a6 - 1)))), slkA w5 a2.freed]) (H19.sel [0, 1, 2, 3] (by decide) rfl) rfl (oper_callF rfl rfl) (slices_Clone__int_int__okK E n _ _ hzz16 _) (.cons (.refl _) .nil) rfl ?_
      rintro v20 S21 _ rfl H22
      replace H22 : Has B0 S21 [.row 1 v20 ((z16).map (D.int .i64)), slkA (kwAt 5 ws4 (Int.toNat (IntKind.wrap .i64 (a6 - 1)))) z15.kids, .box b1 [v3, w5], nestA encdom_node dom_node.kids 7 5 v3 ws4 a2.l (some (Int.toNat (IntKind.wrap .i64 (a6 - 1)))), slkA w5 a2.freed] := H22
      have H23 : Has B0 S21 [.row 1 v20 ((z16).map (D.int .i64)), slkA (kwAt 5 ws4 (Int.toNat (IntKind.wrap .i64 (a6 - 1)))) z15.kids, .box b1 [v3, w5], nestA encdom_node dom_node.kids 7 5 v3 ws4 a2.l (some (Int.toNat (IntKind.wrap .i64 (a6 - 1)))), slkA w5 a2.freed] := H22.sel [0, 1, 2, 3, 4] (by decide) rfl
      have H24 : Has B0 S21 ([slkA (kwAt 5 ws4 (Int.toNat (IntKind.wrap .i64 (a6 - 1)))) z15.kids, nestA encdom_node dom_node.kids 7 5 v3 ws4 a2.l (some (Int.toNat (IntKind.wrap .i64 (a6 - 1))))] ++ [.row 1 v20 ((z16).map (D.int .i64)), .box b1 [v3, w5], slkA w5 a2.freed]) := H23.sel [1, 3, 0, 2, 4] (by decide) rfl
      replace H24 : Has B0 S21 [slkA (kwAt 5 ws4 (Int.toNat (IntKind.wrap .i64 (a6 - 1)))) z15.kids, nestA encdom_node dom_node.kids 7 5 v3 ws4 a2.l (some (Int.toNat (IntKind.wrap .i64 (a6 - 1)))), .row 1 v20 ((z16).map (D.int .i64)), .box b1 [v3, w5], slkA w5 a2.freed] := H24
      have H25 := Has.untake H24 (idx_some hzz15).2
      have H26 : Has B0 S21 [.row 1 v20 ((z16).map (D.int .i64)), .box b1 [v3, w5], nestA encdom_node dom_node.kids 7 5 v3 ws4 a2.l none, slkA w5 a2.freed] := H25.sel [1, 2, 0, 3] (by decide) rfl
      refine wpO.val rfl (oper_assign rfl) rfl ?_
      refine wpO.nil ?_
      obtain ⟨SF1, HF1, hgF1⟩ := H26.freeze E.obj.toObjOk (i := 0) (l' := [.box b1 [v3, w5], nestA encdom_node dom_node.kids 7 5 v3 ws4 a2.l none, slkA w5 a2.freed]) rfl (.same (.same (.same .nil)))
      refine WpC.ghost (hgF1 _ _ [(0, (.ptr b1 0 0)), (1, (.d (.int .i64 a6))), (4, (.d (.sl ((z16).map (D.int .i64)) false))), (5, (rowPtr v3 (Int.toNat (IntKind.wrap .i64 (a6 - 1))) 0)), (6, (.ptr b1 0 0)), (7, (.d (.int .i64 a6))), (8, (rowPtr v3 (Int.toNat (IntKind.wrap .i64 (a6 - 1))) 0)), (9, (rowPtr v3 (Int.toNat (IntKind.wrap .i64 (a6 - 1))) 0)), (10, (.d (.bool false))), (11, (rowPtr v3 (Int.toNat (IntKind.wrap .i64 (a6 - 1))) 0)), (12, (rowPtr v3 (Int.toNat (IntKind.wrap .i64 (a6 - 1))) 0)), (13, (rowPtr v3 (Int.toNat (IntKind.wrap .i64 (a6 - 1))) 5)), (14, (kwAt 5 ws4 (Int.toNat (IntKind.wrap .i64 (a6 - 1))))), (15, (.d (.sl ((z16).map (D.int .i64)) false)))] (.cons rfl (.refl _) (.cons rfl (.refl _) (.it rfl (.cons rfl (.refl _) (.cons rfl (.refl _) (.cons rfl (.refl _) (.cons rfl (.refl _) (.cons rfl (.refl _) (.cons rfl (.refl _) (.cons rfl (.refl _) (.cons rfl (.refl _) (.cons rfl (.refl _) (.cons rfl (.refl _) (.it rfl .nil))))))))))))))) ?_
      have hr := Option.some.inj h
      subst hr
      exact WpC.ret ⟨_, rfl, rfl, _, _, _, .refl _, (.refl _), ⟨rfl, rfl⟩, HF1.sel [0, 1, 2] (by decide) rfl⟩
set_option maxRecDepth 20000 in
set_option maxHeartbeats 4000000 in
theorem dom_Dom_Parent_ok (n : Nat) (a2 : dom_Dom) (a6 : Int) (r : Int) (h : dom_Dom_Parent n a2 a6 = some r) (b1 : Nat) (v3 : AV) (ws4 : List (List AV)) (w5 : AV) : SpecM R cfg.P 20 [.ptr b1 0 0, .d (.int .i64 a6)] [.box b1 [v3, w5], nestA encdom_node dom_node.kids 7 5 v3 ws4 a2.l none, slkA w5 a2.freed] (fun v l => v = .d (.int .i64 r) ∧ l = [.box b1 [v3, w5], nestA encdom_node dom_node.kids 7 5 v3 ws4 a2.l none, slkA w5 a2.freed]) := by
  unfold dom_Dom_Parent at h
  refine SpecM.of_wp (C := cfg) Try.func20 rfl nm20 rfl (fun B0 S0 H0 => ?_)
  replace H0 : Has B0 S0 [.box b1 [v3, w5], nestA encdom_node dom_node.kids 7 5 v3 ws4 a2.l none, slkA w5 a2.freed] := H0
  refine WpC.seq ?_
  refine WpC.region E.obj rfl ?_
  refine wpO.val rfl (oper_assign rfl) rfl ?_
  refine wpO.nil ?_
  refine WpC.seq ?_
  refine WpC.region E.obj rfl ?_
  refine wpO.val rfl (oper_move rfl) rfl ?_
  refine wpO.val rfl (oper_move rfl) rfl ?_
  obtain ⟨z7, hzz7, h⟩ := bind_some h
  refine wpO.retM (ins := [.box b1 [v3, w5], nestA encdom_node dom_node.kids 7 5 v3 ws4 a2.l none, slkA w5 a2.freed]) (more := []) (H0.sel [0, 1, 2] (by decide) rfl) rfl (oper_callF rfl rfl) (dom_Dom_at_ok E n _ _ _ hzz7 b1 v3 ws4 w5) (.cons (.refl _) (.cons (.refl _) .nil)) rfl ?_
  rintro v8 S9 l10 hr11 H12
  rcases z7 with _ | _
  ·
    obtain ⟨rfl, rfl⟩ := hr11
    replace h := if_f rfl h
    replace H12 : Has B0 S9 [.box b1 [v3, w5], nestA encdom_node dom_node.kids 7 5 v3 ws4 a2.l none, slkA w5 a2.freed] := H12
    have H13 : Has B0 S9 [.box b1 [v3, w5], nestA encdom_node dom_node.kids 7 5 v3 ws4 a2.l none, slkA w5 a2.freed] := H12.sel [0, 1, 2] (by decide) rfl
    refine wpO.val rfl (oper_assign rfl) rfl ?_
    refine wpO.nil ?_
    refine WpC.seq ?_
    refine WpC.seq ?_
    refine WpC.region E.obj rfl ?_
    refine wpO.val rfl (oper_move rfl) rfl ?_
    refine wpO.val rfl (oper_bin rfl rfl (binD_nn up91)) rfl ?_
    refine wpO.nil ?_
    refine WpC.cond rfl (fun hb => ?_) (fun hb => ?_)
    ·
      refine WpC.seq ?_
      refine WpC.region E.obj rfl ?_
      refine wpO.val rfl (oper_assign rfl) rfl ?_
      refine wpO.nil ?_
      have hr := Option.some.inj h
      subst hr
      exact WpC.ret ⟨_, rfl, rfl, _, _, _, .refl _, (.refl _), ⟨rfl, rfl⟩, H13.sel [0, 1, 2] (by decide) rfl⟩
    ·
      cases hb
  ·
    obtain ⟨rfl, rfl⟩ := hr11
    replace h := if_t rfl h
    replace H12 : Has B0 S9 [.box b1 [v3, w5], nestA encdom_node dom_node.kids 7 5 v3 ws4 a2.l none, slkA w5 a2.freed] := H12
    have H14 : Has B0 S9 [.box b1 [v3, w5], nestA encdom_node dom_node.kids 7 5 v3 ws4 a2.l none, slkA w5 a2.freed] := H12.sel [0, 1, 2] (by decide) rfl
    refine wpO.val rfl (oper_assign rfl) rfl ?_
    refine wpO.nil ?_
    refine WpC.seq ?_
    refine WpC.seq ?_
    refine WpC.region E.obj rfl ?_
    refine wpO.val rfl (oper_move rfl) rfl ?_
    obtain ⟨z15, hzz15, h⟩ := bind_some h
    refine wpO.val rfl (oper_eqN H14 (q := 1) rfl hzz15 rfl rfl up91) rfl ?_
    refine wpO.nil ?_
    refine WpC.cond rfl (fun hb => ?_) (fun hb => ?_)
    ·
      cases hb
    ·
      refine WpC.skip ?_
      refine WpC.seq ?_
      refine WpC.region E.obj rfl ?_
      refine wpO.val rfl (oper_move rfl) rfl ?_
      refine wpO.val rfl (oper_nilCheckN H14 (q := 1) rfl hzz15 rfl) rfl ?_
      refine wpO.val rfl (oper_nestField H14 (i := 1) rfl hzz15 rfl fo90_6 nz3 rfl) rfl ?_
      refine wpO.nestLoadF H14 rfl (q := 1) rfl hzz15 rfl ag3 rfl rfl rfl ?_
      refine wpO.val rfl (oper_assign rfl) rfl ?_
      refine wpO.nil ?_
      have hr := Option.some.inj h
      subst hr
      exact WpC.ret ⟨_, rfl, rfl, _, _, _, .refl _, (.refl _), ⟨rfl, rfl⟩, H14.sel [0, 1, 2] (by decide) rfl⟩
set_option maxRecDepth 20000 in
set_option maxHeartbeats 4000000 in
theorem dom_Dom_Count_ok (n : Nat) (a2 : dom_Dom) (r : Int) (h : dom_Dom_Count n a2 = some r) (b1 : Nat) (v3 : AV) (ws4 : List (List AV)) (w5 : AV) : SpecM R cfg.P 22 [.ptr b1 0 0] [.box b1 [v3, w5], nestA encdom_node dom_node.kids 7 5 v3 ws4 a2.l none, slkA w5 a2.freed] (fun v l => v = .d (.int .i64 r) ∧ l = [.box b1 [v3, w5], nestA encdom_node dom_node.kids 7 5 v3 ws4 a2.l none, slkA w5 a2.freed]) := by
  unfold dom_Dom_Count at h
  refine SpecM.of_wp (C := cfg) Try.func22 rfl nm22 rfl (fun B0 S0 H0 => ?_)
  replace H0 : Has B0 S0 [.box b1 [v3, w5], nestA encdom_node dom_node.kids 7 5 v3 ws4 a2.l none, slkA w5 a2.freed] := H0
  refine WpC.seq ?_
  refine WpC.region E.obj rfl ?_
  refine wpO.val rfl (oper_assign rfl) rfl ?_
  refine wpO.nil ?_
  refine WpC.seq ?_
  refine WpC.drawP E.obj hmix [[(0, none)], [(3, some 0)], [(4, some 1)], [(5, some 2)], [(6, some 3)], [(0, none)], [(8, some 5)], [(9, some 6)], [(10, some 7)], [(11, some 8)], [(7, some 4), (12, some 9)], [(13, some 10)]] [(2, some 11)] (by kernel_rfl) [] (by decide) [some (.ptr b1 0 0), some (.ptr b1 0 0), some (.ptr b1 0 0), some v3, some (.d (.int .i64 ((a2.l).length : Int))), some (.ptr b1 0 0), some (.ptr b1 0 0), some (.ptr b1 0 1), some w5, some (.d (.int .i64 ((a2.freed).length : Int))), some (.d (.int .i64 (IntKind.wrap .i64 (((a2.l).length : Int) - ((a2.freed).length : Int))))), some (.d (.int .i64 (IntKind.wrap .i64 (((a2.l).length : Int) - ((a2.freed).length : Int)))))] ?_
  refine ⟨[0, 1, 2, 3, 4, 5, 6, 7, 8, 9, 10, 11], by kernel_rfl, ?_, _, rfl, ?_⟩
  ·
    refine .cons rfl rfl rfl (.step ?_) ?_
    ·
      refine wpO.val rfl (oper_move rfl) rfl ?_
      exact wpO.nil ⟨_, _, rfl, fun _ ht => by cases ht; exact ⟨rfl, .refl _⟩⟩
    refine .cons rfl rfl rfl (.step ?_) ?_
    ·
      refine wpO.val rfl (oper_nilCheck rfl) rfl ?_
      exact wpO.nil ⟨_, _, rfl, fun _ ht => by cases ht; exact ⟨rfl, .refl _⟩⟩
    refine .cons rfl rfl rfl (.step ?_) ?_
    ·
      refine wpO.val rfl (oper_fieldAddr rfl fo87_0 nz85 rfl) rfl ?_
      exact wpO.nil ⟨_, _, rfl, fun _ ht => by cases ht; exact ⟨rfl, .refl _⟩⟩
    refine .cons rfl rfl rfl (.step ?_) ?_
    ·
      refine wpO.val rfl (oper_load H0 (i := 0) rfl rfl (part_one ag85 rfl)) rfl ?_
      exact wpO.nil ⟨_, _, rfl, fun _ ht => by cases ht; exact ⟨rfl, .refl _⟩⟩
    refine .cons rfl rfl rfl (.step ?_) ?_
    ·
      refine wpO.val rfl (oper_lenN H0 (i := 1) rfl rfl es85) rfl ?_
      exact wpO.nil ⟨_, _, rfl, fun _ ht => by cases ht; exact ⟨rfl, .refl _⟩⟩
    refine .cons rfl rfl rfl (.step ?_) ?_
    ·
      refine wpO.val rfl (oper_move rfl) rfl ?_
      exact wpO.nil ⟨_, _, rfl, fun _ ht => by cases ht; exact ⟨rfl, .refl _⟩⟩
    refine .cons rfl rfl rfl (.step ?_) ?_
    ·
      refine wpO.val rfl (oper_nilCheck rfl) rfl ?_
      exact wpO.nil ⟨_, _, rfl, fun _ ht => by cases ht; exact ⟨rfl, .refl _⟩⟩
    refine .cons rfl rfl rfl (.step ?_) ?_
    ·
      refine wpO.val rfl (oper_fieldAddr rfl fo87_1 nz31 rfl) rfl ?_
      exact wpO.nil ⟨_, _, rfl, fun _ ht => by cases ht; exact ⟨rfl, .refl _⟩⟩
    refine .cons rfl rfl rfl (.step ?_) ?_
    ·
      refine wpO.val rfl (oper_load H0 (i := 0) rfl rfl (part_one ag31 rfl)) rfl ?_
      exact wpO.nil ⟨_, _, rfl, fun _ ht => by cases ht; exact ⟨rfl, .refl _⟩⟩
    refine .cons rfl rfl rfl (.step ?_) ?_
    ·
      refine wpO.val rfl (oper_lenS H0 (i := 2) rfl rfl es31) rfl ?_
      exact wpO.nil ⟨_, _, rfl, fun _ ht => by cases ht; exact ⟨rfl, .refl _⟩⟩
    refine .cons rfl rfl rfl (.step ?_) ?_
    ·
      refine wpO.val rfl (oper_bin rfl rfl binD_sub) rfl ?_
      exact wpO.nil ⟨_, _, rfl, fun _ ht => by cases ht; exact ⟨rfl, .refl _⟩⟩
    refine .cons rfl rfl rfl (.step ?_) ?_
    ·
      refine wpO.val rfl (oper_assign rfl) rfl ?_
      exact wpO.nil ⟨_, _, rfl, fun _ ht => by cases ht; exact ⟨rfl, .refl _⟩⟩
    exact .nil
  have hr := Option.some.inj h
  subst hr
  exact WpC.ret ⟨_, rfl, rfl, _, _, _, .refl _, (.refl _), ⟨rfl, rfl⟩, H0.sel [0, 1, 2] (by decide) rfl⟩
set_option maxRecDepth 20000 in
set_option maxHeartbeats 4000000 in
theorem porticobook_Within_ok (n : Nat) (a1 : Int) (a2 : Int) (a3 : Int) (r : Int) (h : porticobook_Within n a1 a2 a3 = some r) : SpecC R cfg.P 24 [(.int .i64 a1), (.int .i64 a2), (.int .i64 a3)] (.d (.int .i64 r)) := by
  unfold porticobook_Within at h
  refine SpecC.of_wp E.obj.toObjOk (C := cfg) Try.func24 rfl nm24 rfl ?_
  have H0 : Has pureSt pureSt [] := Has.pure
  refine WpC.seq ?_
  refine WpC.region E.obj rfl ?_
  refine wpO.val rfl (oper_assign rfl) rfl ?_
  refine wpO.nil ?_
  refine WpC.seq ?_
  refine WpC.region E.obj rfl ?_
  refine wpO.val rfl (oper_move rfl) rfl ?_
  refine wpO.val rfl (oper_move rfl) rfl ?_
  refine wpO.val rfl (oper_move rfl) rfl ?_
  refine wpO.val rfl (oper_bin rfl rfl binD_sub) rfl ?_
  refine wpO.val rfl (oper_bin rfl rfl binD_add) rfl ?_
  obtain ⟨z4, hzz4, h⟩ := bind_some h
  refine wpO.val rfl (oper_bin rfl rfl (binD_remI hzz4)) rfl ?_
  refine wpO.val rfl (oper_assign rfl) rfl ?_
  refine wpO.nil ?_
  refine WpC.join (B := pureSt) (α := Int) (fun a => porticobook_Within_j8 a2 a = some r) (fun a => [(0, (.d (.int .i64 a))), (1, (.d (.int .i64 a2)))]) (fun a => []) ?_ ?_
  ·
    intro x7 S5 H6 h
    replace h : porticobook_Within_j8 a2 x7 = some r := h
    replace H6 : Has pureSt S5 [] := H6
    unfold porticobook_Within_j8 at h
    refine WpC.seq ?_
    refine WpC.region E.obj rfl ?_
    refine wpO.val rfl (oper_move rfl) rfl ?_
    refine wpO.val rfl (oper_move rfl) rfl ?_
    refine wpO.val rfl (oper_bin rfl rfl binD_add) rfl ?_
    refine wpO.val rfl (oper_assign rfl) rfl ?_
    refine wpO.nil ?_
    have hr := Option.some.inj h
    subst hr
    exact WpC.ret ⟨_, rfl, rfl, end1 (ArgsC.eq .nil)⟩
  ·
    refine WpC.seq ?_
    refine WpC.region E.obj rfl ?_
    refine wpO.val rfl (oper_move rfl) rfl ?_
    refine wpO.val rfl (oper_bin rfl rfl binD_lss) rfl ?_
    refine wpO.nil ?_
    refine WpC.cond rfl (fun hb9 => ?_) (fun hb9 => ?_)
    ·
      replace h := if_t hb9 h
      refine WpC.region E.obj rfl ?_
      refine wpO.val rfl (oper_move rfl) rfl ?_
      refine wpO.val rfl (oper_move rfl) rfl ?_
      refine wpO.val rfl (oper_bin rfl rfl binD_add) rfl ?_
      refine wpO.val rfl (oper_move rfl) rfl ?_
      refine wpO.val rfl (oper_bin rfl rfl binD_sub) rfl ?_
      refine wpO.val rfl (oper_bin rfl rfl binD_add) rfl ?_
      refine wpO.val rfl (oper_assign rfl) rfl ?_
      refine wpO.nil ?_
      exact ⟨(IntKind.wrap .i64 ((IntKind.wrap .i64 ((IntKind.wrap .i64 (z4 + a3)) - a2)) + 1)), _, _, pureSt, .refl _ _, .refl _, (WeakE.cons rfl (.refl _) (WeakE.cons rfl (.refl _) WeakE.nil)), H0.sel [] (by decide) rfl, h⟩
    ·
      replace h := if_f hb9 h
      refine WpC.skip ?_
      exact ⟨z4, _, _, pureSt, .refl _ _, .refl _, (WeakE.cons rfl (.refl _) (WeakE.cons rfl (.refl _) WeakE.nil)), H0.sel [] (by decide) rfl, h⟩
set_option maxRecDepth 20000 in
set_option maxHeartbeats 4000000 in
theorem porticobook_Same_int_ok (n : Nat) (a1 : (List Int)) (a2 : (List Int)) (r : Bool) (h : porticobook_Same_int n a1 a2 = some r) : SpecC R cfg.P 25 [(.sl ((a1).map (D.int .i64)) false), (.sl ((a2).map (D.int .i64)) false)] (.d (.bool r)) := by
  unfold porticobook_Same_int at h
  refine SpecC.of_wp E.obj.toObjOk (C := cfg) Try.func25 rfl nm25 rfl ?_
  have H0 : Has pureSt pureSt [] := Has.pure
  refine WpC.seq ?_
  refine WpC.region E.obj rfl ?_
  refine wpO.val rfl (oper_assign rfl) rfl ?_
  refine wpO.nil ?_
  refine WpC.seq ?_
  refine WpC.seq ?_
  refine WpC.region E.obj rfl ?_
  refine wpO.val rfl (oper_move rfl) rfl ?_
  refine wpO.val rfl (oper_lenL rfl es31) rfl ?_
  refine wpO.val rfl (oper_move rfl) rfl ?_
  refine wpO.val rfl (oper_lenL rfl es31) rfl ?_
  refine wpO.val rfl (oper_bin rfl rfl binD_neq) rfl ?_
  refine wpO.nil ?_
  refine WpC.cond rfl (fun hb3 => ?_) (fun hb3 => ?_)
  ·
    replace h := if_t hb3 h
    refine WpC.seq ?_
    refine WpC.region E.obj rfl ?_
    refine wpO.val rfl (oper_assign rfl) rfl ?_
    refine wpO.nil ?_
    have hr := Option.some.inj h
    subst hr
    exact WpC.ret ⟨_, rfl, rfl, end1 (ArgsC.eq .nil)⟩
  ·
    replace h := if_f hb3 h
    refine WpC.skip ?_
    refine WpC.seq ?_
    refine WpC.seq ?_
    refine WpC.region E.obj rfl ?_
    refine wpO.val rfl (oper_assign rfl) rfl ?_
    refine wpO.nil ?_
    refine WpC.block ?_
    refine WpL.start (B := pureSt) (α := Int) (fun k a => porticobook_Same_int_l12 a1 a2 k a = some r) (fun a => [(0, (.d (.sl ((a1).map (D.int .i64)) false))), (1, (.d (.sl ((a2).map (D.int .i64)) false))), (5, (.d (.int .i64 a)))]) (fun a => []) ?_ ?_ n ⟨0, _, _, pureSt, .refl _ _, .refl _, (WeakE.cons rfl (.refl _) (WeakE.cons rfl (.refl _) (WeakE.cons rfl (.refl _) WeakE.nil))), H0.sel [] (by decide) rfl, h⟩
    · intro a h; simp [porticobook_Same_int_l12] at h
    ·
      intro k12 x11 S9 H10 h
      replace h : porticobook_Same_int_l12 a1 a2 (k12 + 1) x11 = some r := h
      replace H10 : Has pureSt S9 [] := H10
      unfold porticobook_Same_int_l12 at h
      refine WpC.seq ?_
      refine WpC.seq ?_
      refine WpC.region E.obj rfl ?_
      refine wpO.val rfl (oper_move rfl) rfl ?_
      refine wpO.val rfl (oper_move rfl) rfl ?_
      refine wpO.val rfl (oper_lenL rfl es31) rfl ?_
      refine wpO.val rfl (oper_bin rfl rfl binD_lss) rfl ?_
      refine wpO.nil ?_
      refine WpC.cond rfl (fun hb13 => ?_) (fun hb13 => ?_)
      ·
        replace h := if_t hb13 h
        refine WpC.skip ?_
        refine WpC.seq ?_
        refine WpC.block ?_
        refine WpC.seq ?_
        obtain ⟨z14, hzz14, h⟩ := bind_some h
        obtain ⟨z15, hzz15, h⟩ := bind_some h
        refine WpC.drawP E.obj hmix [[(0, none)], [(5, none)], [(17, some 0), (18, some 1)], [(19, some 2)], [(1, none)], [(5, none)], [(21, some 4), (22, some 5)], [(23, some 6)], [(20, some 3), (24, some 7)]] [(0, none), (1, none), (5, none), (25, some 8)] (by kernel_rfl) [] (by decide) [some (.d (.sl ((a1).map (D.int .i64)) false)), some (.d (.int .i64 x11)), some (.eptr (.int .i64 z14) 0), some (.d (.int .i64 z14)), some (.d (.sl ((a2).map (D.int .i64)) false)), some (.d (.int .i64 x11)), some (.eptr (.int .i64 z15) 0), some (.d (.int .i64 z15)), some (.d (.bool (z14 != z15)))] ?_
        refine ⟨[0, 1, 2, 3, 4, 5, 6, 7, 8], by kernel_rfl, ?_, _, rfl, ?_⟩
        ·
          refine .cons rfl rfl rfl (.step ?_) ?_
          ·
            refine wpO.val rfl (oper_move rfl) rfl ?_
            exact wpO.nil ⟨_, _, rfl, fun _ ht => by cases ht; exact ⟨rfl, .refl _⟩⟩
          refine .cons rfl rfl rfl (.step ?_) ?_
          ·
            refine wpO.val rfl (oper_move rfl) rfl ?_
            exact wpO.nil ⟨_, _, rfl, fun _ ht => by cases ht; exact ⟨rfl, .refl _⟩⟩
          refine .cons rfl rfl rfl (.step ?_) ?_
          ·
            refine wpO.val rfl (oper_idx rfl rfl (idxAddr (enc := (D.int .i64)) hzz14 el31 as3 (((fun _ => rfl) _).trans sz3.symm))) rfl ?_
            exact wpO.nil ⟨_, _, rfl, fun _ ht => by cases ht; exact ⟨rfl, .refl _⟩⟩
          refine .cons rfl rfl rfl (.step ?_) ?_
          ·
            refine wpO.val rfl (oper_loadE rfl (partD_one ag3 rfl)) rfl ?_
            exact wpO.nil ⟨_, _, rfl, fun _ ht => by cases ht; exact ⟨rfl, .refl _⟩⟩
          refine .cons rfl rfl rfl (.step ?_) ?_
          ·
            refine wpO.val rfl (oper_move rfl) rfl ?_
            exact wpO.nil ⟨_, _, rfl, fun _ ht => by cases ht; exact ⟨rfl, .refl _⟩⟩
          refine .cons rfl rfl rfl (.step ?_) ?_
          ·
            refine wpO.val rfl (oper_move rfl) rfl ?_
            exact wpO.nil ⟨_, _, rfl, fun _ ht => by cases ht; exact ⟨rfl, .refl _⟩⟩
          refine .cons rfl rfl rfl (.step ?_) ?_
          ·
            refine wpO.val rfl (oper_idx rfl rfl (idxAddr (enc := (D.int .i64)) hzz15 el31 as3 (((fun _ => rfl) _).trans sz3.symm))) rfl ?_
            exact wpO.nil ⟨_, _, rfl, fun _ ht => by cases ht; exact ⟨rfl, .refl _⟩⟩
          refine .cons rfl rfl rfl (.step ?_) ?_
          ·
            refine wpO.val rfl (oper_loadE rfl (partD_one ag3 rfl)) rfl ?_
            exact wpO.nil ⟨_, _, rfl, fun _ ht => by cases ht; exact ⟨rfl, .refl _⟩⟩
          refine .cons rfl rfl rfl (.step ?_) ?_
          ·
            refine wpO.val rfl (oper_bin rfl rfl binD_neq) rfl ?_
            exact wpO.nil ⟨_, _, rfl, fun _ ht => by cases ht; exact ⟨rfl, .refl _⟩⟩
          exact .nil
        refine WpC.cond rfl (fun hb16 => ?_) (fun hb16 => ?_)
        ·
          replace h := if_t hb16 h
          refine WpC.seq ?_
          refine WpC.region E.obj rfl ?_
          refine wpO.val rfl (oper_assign rfl) rfl ?_
          refine wpO.nil ?_
          have hr := Option.some.inj h
          subst hr
          exact WpC.ret ⟨_, rfl, rfl, end1 (ArgsC.eq .nil)⟩
        ·
          replace h := if_f hb16 h
          refine WpC.skip ?_
          refine WpC.region E.obj rfl ?_
          refine wpO.val rfl (oper_move rfl) rfl ?_
          refine wpO.val rfl (oper_bin rfl rfl binD_add) rfl ?_
          refine wpO.val rfl (oper_assign rfl) rfl ?_
          refine wpO.nil ?_
          exact ⟨(IntKind.wrap .i64 (x11 + 1)), _, _, S9, .refl _ _, .refl _, (WeakE.cons rfl (.refl _) (WeakE.cons rfl (.refl _) (WeakE.cons rfl (.refl _) WeakE.nil))), H10.sel [] (by decide) rfl, h⟩
      ·
        replace h := if_f hb13 h
        refine WpC.exit ?_
        refine WpC.seq ?_
        refine WpC.region E.obj rfl ?_
        refine wpO.val rfl (oper_assign rfl) rfl ?_
        refine wpO.nil ?_
        have hr := Option.some.inj h
        subst hr
        exact WpC.ret ⟨_, rfl, rfl, end1 (ArgsC.eq .nil)⟩
end
end Pr
end Go.Ev


namespace Go.Ev
namespace Pr
set_option linter.unusedVariables false
set_option linter.unusedSimpArgs false
open Go.Proofs
section
variable {R : ObjR} (E : PrOk R)
include E
set_option maxRecDepth 20000 in
set_option maxHeartbeats 4000000 in
theorem porticolaw12_DomMoves_ok (n : Nat) (a1 : (List Int)) (a2 : (List Int)) (a3 : (List Int)) (r : Bool) (h : porticolaw12_DomMoves n a1 a2 a3 = some r) : SpecC R cfg.P 4 [(.sl ((a1).map (D.int .i64)) false), (.sl ((a2).map (D.int .i64)) false), (.sl ((a3).map (D.int .i64)) false)] (.d (.bool r)) := by
  unfold porticolaw12_DomMoves at h
  refine SpecC.of_wp E.obj.toObjOk (C := cfg) Try.func4 rfl nm4 rfl ?_
  have H0 : Has pureSt pureSt [] := Has.pure
  refine WpC.seq ?_
  refine WpC.region E.obj rfl ?_
  refine wpO.val rfl (oper_assign rfl) rfl ?_
  refine wpO.nil ?_
  refine WpC.seq ?_
  refine WpC.region E.obj rfl ?_
  obtain ⟨z4, hzz4, h⟩ := bind_some h
  refine wpO.retM (ins := []) (more := []) (H0.sel [] (by decide) rfl) rfl (oper_callF rfl rfl) (dom_New_ok E n  _ hzz4 ) .nil rfl ?_
  rintro v5 S6 l7 hr8 H9
  rcases z4 with _ | x10
  ·
    obtain ⟨rfl, rfl⟩ := hr8
    replace h := optN h
    replace H9 : Has pureSt S6 [] := H9
    refine wpO.val rfl (oper_assign rfl) rfl ?_
    refine wpO.nil ?_
    refine WpC.seq ?_
    refine WpC.seq ?_
    refine WpC.region E.obj rfl ?_
    refine wpO.val rfl (oper_move rfl) rfl ?_
    refine wpO.val rfl (oper_bin rfl rfl (binD_nn up23)) rfl ?_
    refine wpO.nil ?_
    refine WpC.cond rfl (fun hb => ?_) (fun hb => ?_)
    ·
      refine WpC.seq ?_
      refine WpC.region E.obj rfl ?_
      refine wpO.val rfl (oper_assign rfl) rfl ?_
      refine wpO.nil ?_
      have hr := Option.some.inj h
      subst hr
      exact WpC.ret ⟨_, rfl, rfl, end1 (ArgsC.eq .nil)⟩
    ·
      cases hb
  ·
    obtain ⟨b11, v12, ws13, w14, rfl, rfl⟩ := hr8
    replace h := optS h
    replace H9 : Has pureSt S6 [.box b11 [v12, w14], nestA encdom_node dom_node.kids 7 5 v12 ws13 x10.l none, slkA w14 x10.freed] := H9
    have H15 : Has pureSt S6 [.box b11 [v12, w14], nestA encdom_node dom_node.kids 7 5 v12 ws13 x10.l none, slkA w14 x10.freed] := H9.sel [0, 1, 2] (by decide) rfl
    refine wpO.val rfl (oper_assign rfl) rfl ?_
    refine wpO.nil ?_
    refine WpC.seq ?_
    refine WpC.seq ?_
    refine WpC.region E.obj rfl ?_
    refine wpO.val rfl (oper_move rfl) rfl ?_
    refine wpO.val rfl (oper_bin rfl rfl (binD_pn up23)) rfl ?_
    refine wpO.nil ?_
    refine WpC.cond rfl (fun hb => ?_) (fun hb => ?_)
    ·
      cases hb
    ·
      refine WpC.skip ?_
      refine WpC.seq ?_
      refine WpC.region E.obj rfl ?_
      refine wpO.val rfl (oper_move rfl) rfl ?_
      obtain ⟨z16, hzz16, h⟩ := bind_some h
      refine wpO.retM (ins := [.box b11 [v12, w14], nestA encdom_node dom_node.kids 7 5 v12 ws13 x10.l none, slkA w14 x10.freed]) (more := []) (H15.sel [0, 1, 2] (by decide) rfl) rfl (oper_callF rfl rfl) (dom_Dom_Element_ok E n _ _ _ _ hzz16 b11 v12 ws13 w14) (.cons (.refl _) (.cons (.refl _) (.cons (.refl _) .nil))) rfl ?_
      rintro _ S20 _ ⟨rfl, v17, ws18, w19, rfl⟩ H21
      replace H21 : Has pureSt S20 [.box b11 [v17, w19], nestA encdom_node dom_node.kids 7 5 v17 ws18 z16.2.l none, slkA w19 z16.2.freed] := H21
      have H22 : Has pureSt S20 [.box b11 [v17, w19], nestA encdom_node dom_node.kids 7 5 v17 ws18 z16.2.l none, slkA w19 z16.2.freed] := H21.sel [0, 1, 2] (by decide) rfl
      refine wpO.val rfl (oper_move rfl) rfl ?_
      obtain ⟨z23, hzz23, h⟩ := bind_some h
      refine wpO.retM (ins := [.box b11 [v17, w19], nestA encdom_node dom_node.kids 7 5 v17 ws18 z16.2.l none, slkA w19 z16.2.freed]) (more := []) (H22.sel [0, 1, 2] (by decide) rfl) rfl (oper_callF rfl rfl) (dom_Dom_Element_ok E n _ _ _ _ hzz23 b11 v17 ws18 w19) (.cons (.refl _) (.cons (.refl _) (.cons (.refl _) .nil))) rfl ?_
      rintro _ S27 _ ⟨rfl, v24, ws25, w26, rfl⟩ H28
      replace H28 : Has pureSt S27 [.box b11 [v24, w26], nestA encdom_node dom_node.kids 7 5 v24 ws25 z23.2.l none, slkA w26 z23.2.freed] := H28
      have H29 : Has pureSt S27 [.box b11 [v24, w26], nestA encdom_node dom_node.kids 7 5 v24 ws25 z23.2.l none, slkA w26 z23.2.freed] := H28.sel [0, 1, 2] (by decide) rfl
      refine wpO.val rfl (oper_assign rfl) rfl ?_
      refine wpO.val rfl (oper_assign rfl) rfl ?_
      refine wpO.nil ?_
      refine WpC.seq ?_
      refine WpC.seq ?_
      refine WpC.region E.obj rfl ?_
      refine wpO.val rfl (oper_move rfl) rfl ?_
      refine wpO.val rfl (oper_move rfl) rfl ?_
      obtain ⟨z30, hzz30, h⟩ := bind_some h
      refine wpO.retM (ins := [.box b11 [v24, w26], nestA encdom_node dom_node.kids 7 5 v24 ws25 z23.2.l none, slkA w26 z23.2.freed]) (more := []) (H29.sel [0, 1, 2] (by decide) rfl) rfl (oper_callF rfl rfl) (dom_Dom_Insert_ok E n _ _ _ _ _ hzz30 b11 v24 ws25 w26) (.cons (.refl _) (.cons (.refl _) (.cons (.refl _) (.cons (.refl _) .nil)))) rfl ?_
      rintro _ S33 _ ⟨rfl, ws31, w32, rfl⟩ H34
      replace H34 : Has pureSt S33 [.box b11 [v24, w32], nestA encdom_node dom_node.kids 7 5 v24 ws31 z30.2.l none, slkA w32 z30.2.freed] := H34
      have H35 : Has pureSt S33 [.box b11 [v24, w32], nestA encdom_node dom_node.kids 7 5 v24 ws31 z30.2.l none, slkA w32 z30.2.freed] := H34.sel [0, 1, 2] (by decide) rfl
      refine wpO.val rfl (oper_not rfl) rfl ?_
      refine wpO.val rfl (oper_move rfl) rfl ?_
      rcases Bool.eq_false_or_eq_true ((!z30.1)) with hB36 | hB36
      ·
        replace h := if_t hB36 h
        refine wpO.bool hB36 ?_
        refine wpO.no rfl rfl ?_
        refine wpO.no rfl rfl ?_
        refine wpO.no rfl rfl ?_
        refine wpO.no rfl rfl ?_
        refine wpO.val rfl (oper_pick (b := true) rfl rfl) rfl ?_
        refine wpO.nil ?_
        refine WpC.cond rfl (fun hb => ?_) (fun hb => ?_)
        ·
          refine WpC.seq ?_
          refine WpC.region E.obj rfl ?_
          refine wpO.val rfl (oper_assign rfl) rfl ?_
          refine wpO.nil ?_
          have hr := Option.some.inj h
          subst hr
          exact WpC.ret ⟨_, rfl, rfl, end1 (ArgsC.eq .nil)⟩
        ·
          cases hb
      ·
        replace h := if_f hB36 h
        refine wpO.bool hB36 ?_
        refine wpO.val rfl (oper_move rfl) rfl ?_
        refine wpO.val rfl (oper_move rfl) rfl ?_
        obtain ⟨z37, hzz37, h⟩ := bind_some h
        refine wpO.retM (ins := [.box b11 [v24, w32], nestA encdom_node dom_node.kids 7 5 v24 ws31 z30.2.l none, slkA w32 z30.2.freed]) (more := []) (H35.sel [0, 1, 2] (by decide) rfl) rfl (oper_callF rfl rfl) (dom_Dom_Insert_ok E n _ _ _ _ _ hzz37 b11 v24 ws31 w32) (.cons (.refl _) (.cons (.refl _) (.cons (.refl _) (.cons (.refl _) .nil)))) rfl ?_
        rintro _ S40 _ ⟨rfl, ws38, w39, rfl⟩ H41
        replace H41 : Has pureSt S40 [.box b11 [v24, w39], nestA encdom_node dom_node.kids 7 5 v24 ws38 z37.2.l none, slkA w39 z37.2.freed] := H41
        have H42 : Has pureSt S40 [.box b11 [v24, w39], nestA encdom_node dom_node.kids 7 5 v24 ws38 z37.2.l none, slkA w39 z37.2.freed] := H41.sel [0, 1, 2] (by decide) rfl
        refine wpO.val rfl (oper_not rfl) rfl ?_
        refine wpO.val rfl (oper_pick (b := false) rfl rfl) rfl ?_
        refine wpO.nil ?_
        refine WpC.cond rfl (fun hb43 => ?_) (fun hb43 => ?_)
        ·
          replace h := if_t hb43 h
          refine WpC.seq ?_
          refine WpC.region E.obj rfl ?_
          refine wpO.val rfl (oper_assign rfl) rfl ?_
          refine wpO.nil ?_
          have hr := Option.some.inj h
          subst hr
          exact WpC.ret ⟨_, rfl, rfl, end1 (ArgsC.eq .nil)⟩
        ·
          replace h := if_f hb43 h
          refine WpC.skip ?_
          refine WpC.seq ?_
          refine WpC.region E.obj rfl ?_
          refine wpO.val rfl (oper_assign rfl) rfl ?_
          refine wpO.nil ?_
          refine WpC.seq ?_
          refine WpC.seq ?_
          refine WpC.region E.obj rfl ?_
          refine wpO.val rfl (oper_assign rfl) rfl ?_
          refine wpO.nil ?_
          refine WpC.block ?_
          have H253 := H42.nilG
          refine WpL.start (B := pureSt) (α := dom_Dom × AV × (List (List AV)) × AV × (List Int) × AV × Int) (fun k a => porticolaw12_DomMoves_l64 n a1 a2 a3 z16 z23 k a.1 a.2.2.2.2.1 a.2.2.2.2.2.2 = some r) (fun a => [(0, (.d (.sl ((a1).map (D.int .i64)) false))), (1, (.d (.sl ((a2).map (D.int .i64)) false))), (2, (.d (.sl ((a3).map (D.int .i64)) false))), (7, (.ptr b11 0 0)), (8, (.d (.int .i64 z16.1))), (9, (.d (.int .i64 z23.1))), (10, a.2.2.2.2.2.1), (11, (.d (.int .i64 a.2.2.2.2.2.2)))]) (fun a => [.grow a.2.2.2.2.2.1 ((a.2.2.2.2.1).map (D.int .i64)), .box b11 [a.2.1, a.2.2.2.1], nestA encdom_node dom_node.kids 7 5 a.2.1 a.2.2.1 a.1.l none, slkA a.2.2.2.1 a.1.freed]) ?_ ?_ n ⟨⟨z37.2, v24, ws38, w39, [], (.d .nils), 0⟩, _, _, S40, .refl _ _, .refl _, (WeakE.cons rfl (.refl _) (WeakE.cons rfl (.refl _) (WeakE.cons rfl (.refl _) (WeakE.cons rfl (.refl _) (WeakE.cons rfl (.refl _) (WeakE.cons rfl (.refl _) (WeakE.cons rfl (.refl _) (WeakE.cons rfl (.refl _) WeakE.nil)))))))), H253.sel [0, 1, 2, 3] (by decide) rfl, h⟩
          · intro a h; simp [porticolaw12_DomMoves_l64] at h
          ·
            intro k64 a S55 H56 h
            obtain ⟨x57, v60, ws58, w59, x61, v62, x63⟩ := a
            replace h : porticolaw12_DomMoves_l64 n a1 a2 a3 z16 z23 (k64 + 1) x57 x61 x63 = some r := h
            replace H56 : Has pureSt S55 [.grow v62 ((x61).map (D.int .i64)), .box b11 [v60, w59], nestA encdom_node dom_node.kids 7 5 v60 ws58 x57.l none, slkA w59 x57.freed] := H56
            unfold porticolaw12_DomMoves_l64 at h
            refine WpC.seq ?_
            refine WpC.seq ?_
            refine WpC.region E.obj rfl ?_
            refine wpO.val rfl (oper_move rfl) rfl ?_
            refine wpO.val rfl (oper_move rfl) rfl ?_
            refine wpO.val rfl (oper_lenL rfl es31) rfl ?_
            refine wpO.val rfl (oper_bin rfl rfl binD_lss) rfl ?_
            refine wpO.val rfl (oper_move rfl) rfl ?_
            refine wpO.groupV 3 46 (.d (.bool ((decide (x63 < ((a1).length : Int))) && (decide (x63 < 8))))) ?_ ?_
            ·
              rcases Bool.eq_false_or_eq_true ((decide (x63 < ((a1).length : Int)))) with hB65 | hB65
              ·
                refine wpO.bool hB65 ?_
                refine wpO.val rfl (oper_move rfl) rfl ?_
                refine wpO.val rfl (oper_bin rfl rfl binD_lss) rfl ?_
                refine wpO.val rfl (oper_pick (b := true) rfl rfl) rfl ?_
                exact wpO.nil ⟨_, rfl, (WeakE.put (WeakE.push rfl (WeakE.push rfl (WeakE.put (.refl _) (Less.eq (by rw [hB65]))))) (Less.eq (by rw [hB65]; rw [Bool.true_and])))⟩
              ·
                refine wpO.bool hB65 ?_
                refine wpO.no rfl rfl ?_
                refine wpO.no rfl rfl ?_
                refine wpO.val rfl (oper_pick (b := false) rfl rfl) rfl ?_
                exact wpO.nil ⟨_, rfl, (WeakE.put (WeakE.push rfl (WeakE.push rfl (WeakE.put (.refl _) (Less.eq (by rw [hB65]))))) (Less.eq (by rw [hB65]; rw [Bool.false_and])))⟩
            ·
              refine wpO.nil ?_
              refine WpC.cond rfl (fun hb66 => ?_) (fun hb66 => ?_)
              ·
                replace h := if_t hb66 h
                refine WpC.skip ?_
                refine WpC.seq ?_
                refine WpC.block ?_
                refine WpC.seq ?_
                refine WpC.region E.obj rfl ?_
                refine wpO.val rfl (oper_move rfl) rfl ?_
                refine wpO.val rfl (oper_move rfl) rfl ?_
                refine wpO.val rfl (oper_bin rfl rfl binD_add) rfl ?_
                refine wpO.val rfl (oper_conv_int rfl us3 it5) rfl ?_
                refine wpO.val rfl (oper_buildSlice (vs := [(.d (.int .u8 (IntKind.wrap .u8 (IntKind.wrap .i64 (48 + x63)))))]) (ds := [(.int .u8 (IntKind.wrap .u8 (IntKind.wrap .i64 (48 + x63))))]) rw44 el44 ag5 zo5 sz5 rfl (by decide) (.cons rfl rfl .nil) rfl (by intro d hd; simp only [List.mem_cons, List.not_mem_nil, or_false] at hd; rcases hd with rfl <;> rfl) rfl) rfl ?_
                refine wpO.val rfl (oper_conv_bytes (l := [(IntKind.wrap .u8 (IntKind.wrap .i64 (48 + x63)))]) rfl st9 bs44) rfl ?_
                obtain ⟨z67, hzz67, h⟩ := bind_some h
                refine wpO.retM (ins := [.box b11 [v60, w59], nestA encdom_node dom_node.kids 7 5 v60 ws58 x57.l none, slkA w59 x57.freed]) (more := [.grow v62 ((x61).map (D.int .i64))]) (H56.sel [1, 2, 3, 0] (by decide) rfl) rfl (oper_callF rfl rfl) (dom_Dom_Element_ok E n _ _ _ _ hzz67 b11 v60 ws58 w59) (.cons (.refl _) (.cons (.refl _) (.cons (.refl _) .nil))) rfl ?_
                rintro _ S71 _ ⟨rfl, v68, ws69, w70, rfl⟩ H72
                replace H72 : Has pureSt S71 [.box b11 [v68, w70], nestA encdom_node dom_node.kids 7 5 v68 ws69 z67.2.l none, slkA w70 z67.2.freed, .grow v62 ((x61).map (D.int .i64))] := H72
                have H73 : Has pureSt S71 [.grow v62 ((x61).map (D.int .i64)), .box b11 [v68, w70], nestA encdom_node dom_node.kids 7 5 v68 ws69 z67.2.l none, slkA w70 z67.2.freed] := H72.sel [3, 0, 1, 2] (by decide) rfl
                refine wpO.val rfl (oper_assign rfl) rfl ?_
                refine wpO.nil ?_
                refine WpC.seq ?_
                refine WpC.region E.obj rfl ?_
                refine wpO.val rfl (oper_move rfl) rfl ?_
                refine wpO.val rfl (oper_move rfl) rfl ?_
                obtain ⟨z74, hzz74, h⟩ := bind_some h
                refine wpO.val rfl (oper_idx rfl rfl (idxAddr (enc := (D.int .i64)) hzz74 el31 as3 (((fun _ => rfl) _).trans sz3.symm))) rfl ?_
                refine wpO.val rfl (oper_loadE rfl (partD_one ag3 rfl)) rfl ?_
                refine wpO.val rfl (oper_move rfl) rfl ?_
                refine wpO.val rfl (oper_lenG H73 (i := 0) rfl rfl es31) rfl ?_
                obtain ⟨z75, hzz75, h⟩ := bind_some h
                refine wpO.ret rfl (oper_callF rfl rfl) (porticobook_Within_ok E _ _ _ _ _ hzz75 _ _ (ArgsC.eq (ArgsC.eq (ArgsC.eq .nil)))) rfl ?_
                refine wpO.val rfl (oper_assign rfl) rfl ?_
                refine wpO.nil ?_
                refine WpC.seq ?_
                refine WpC.seq ?_
                refine WpC.region E.obj rfl ?_
                refine wpO.val rfl (oper_move rfl) rfl ?_
                refine wpO.val rfl (oper_move rfl) rfl ?_
                refine wpO.val rfl (oper_move rfl) rfl ?_
                refine wpO.val rfl (oper_move rfl) rfl ?_
                obtain ⟨z76, hzz76, h⟩ := bind_some h
                refine wpO.retM (ins := [.box b11 [v68, w70], nestA encdom_node dom_node.kids 7 5 v68 ws69 z67.2.l none, slkA w70 z67.2.freed]) (more := [.grow v62 ((x61).map (D.int .i64))]) (H73.sel [1, 2, 3, 0] (by decide) rfl) rfl (oper_callF rfl rfl) (dom_Dom_Insert_ok E n _ _ _ _ _ hzz76 b11 v68 ws69 w70) (.cons (.refl _) (.cons (.refl _) (.cons (.refl _) (.cons (.refl _) .nil)))) rfl ?_
                rintro _ S79 _ ⟨rfl, ws77, w78, rfl⟩ H80
                replace H80 : Has pureSt S79 [.box b11 [v68, w78], nestA encdom_node dom_node.kids 7 5 v68 ws77 z76.2.l none, slkA w78 z76.2.freed, .grow v62 ((x61).map (D.int .i64))] := H80
                have H81 : Has pureSt S79 [.grow v62 ((x61).map (D.int .i64)), .box b11 [v68, w78], nestA encdom_node dom_node.kids 7 5 v68 ws77 z76.2.l none, slkA w78 z76.2.freed] := H80.sel [3, 0, 1, 2] (by decide) rfl
                refine wpO.val rfl (oper_not rfl) rfl ?_
                refine wpO.nil ?_
                refine WpC.cond rfl (fun hb82 => ?_) (fun hb82 => ?_)
                ·
                  replace h := if_t hb82 h
                  refine WpC.seq ?_
                  refine WpC.region E.obj rfl ?_
                  refine wpO.val rfl (oper_assign rfl) rfl ?_
                  refine wpO.nil ?_
                  have hr := Option.some.inj h
                  subst hr
                  exact WpC.ret ⟨_, rfl, rfl, end1 (ArgsC.eq .nil)⟩
                ·
                  replace h := if_f hb82 h
                  refine WpC.skip ?_
                  obtain ⟨z83, hzz83, h⟩ := bind_some h
                  obtain ⟨z84, hzz84, h⟩ := bind_some h
                  obtain ⟨z86, hzz86, h⟩ := bind_some h
                  obtain ⟨z90, hzz90, h⟩ := bind_some h
                  obtain ⟨z94, hzz94, h⟩ := bind_some h
                  refine WpC.drawP E.obj hmix [[], [(10, none)], [(13, none)], [(70, some 1), (71, some 2)], [(69, some 0), (72, some 3)], [(12, none)], [(74, some 5)], [(73, some 4), (75, some 6)], [(10, none)], [(13, none)], [(77, some 8), (78, some 9)], [(76, some 7), (79, some 10)], [(80, some 11)]] [(0, none), (1, none), (2, none), (7, none), (8, none), (9, none), (10, some 12), (11, none)] (by kernel_rfl) [4, 7, 11] (by decide) [some (.d (.sl (([]).map (D.int .i64)) true)), some v62, some (.d (.int .i64 z75)), some (.d (.sl ((z83).map (D.int .i64)) false)), none, some (.d (.int .i64 z67.1)), some (.d (.sl (([z67.1]).map (D.int .i64)) true)), none, some v62, some (.d (.int .i64 z75)), some (.d (.sl ((z84).map (D.int .i64)) false)), none, none] ?_
                  refine ⟨[0, 1, 2, 3, 5, 6, 8, 9, 10], by kernel_rfl, ?_, _, _, rfl, rfl, .step ?_⟩
                  ·
                    refine .cons rfl rfl rfl (.step ?_) ?_
                    ·
                      refine wpO.val rfl (oper_buildSlice0 rw31 el31 ag3) rfl ?_
                      exact wpO.nil ⟨_, _, rfl, fun _ ht => by cases ht; exact ⟨rfl, .refl _⟩⟩
                    refine .cons rfl rfl rfl (.step ?_) ?_
                    ·
                      refine wpO.val rfl (oper_move rfl) rfl ?_
                      exact wpO.nil ⟨_, _, rfl, fun _ ht => by cases ht; exact ⟨rfl, .refl _⟩⟩
                    refine .cons rfl rfl rfl (.step ?_) ?_
                    ·
                      refine wpO.val rfl (oper_move rfl) rfl ?_
                      exact wpO.nil ⟨_, _, rfl, fun _ ht => by cases ht; exact ⟨rfl, .refl _⟩⟩
                    refine .cons rfl rfl rfl (.step ?_) ?_
                    ·
                      refine wpO.weak (WeakE.cons (t := 70) rfl (growL H81 (i := 0) rfl) (.refl _)) ?_
                      refine wpO.val rfl (oper_cut_h rfl rfl el31 ue31 (fun z => ((fun _ => rfl) z).trans sz3.symm) hzz83) rfl ?_
                      exact wpO.nil ⟨_, _, rfl, fun _ ht => by cases ht; exact ⟨rfl, .refl _⟩⟩
                    refine .cons rfl rfl rfl (.step ?_) ?_
                    ·
                      refine wpO.val rfl (oper_move rfl) rfl ?_
                      exact wpO.nil ⟨_, _, rfl, fun _ ht => by cases ht; exact ⟨rfl, .refl _⟩⟩
                    refine .cons rfl rfl rfl (.step ?_) ?_
                    ·
                      refine wpO.val rfl (oper_buildSlice (vs := [(.d (.int .i64 z67.1))]) (ds := [(.int .i64 z67.1)]) rw31 el31 ag3 zo3 sz3 rfl (by decide) (.cons rfl rfl .nil) rfl (by intro d hd; simp only [List.mem_cons, List.not_mem_nil, or_false] at hd; rcases hd with rfl <;> rfl) rfl) rfl ?_
                      exact wpO.nil ⟨_, _, rfl, fun _ ht => by cases ht; exact ⟨rfl, .refl _⟩⟩
                    refine .cons rfl rfl rfl (.step ?_) ?_
                    ·
                      refine wpO.val rfl (oper_move rfl) rfl ?_
                      exact wpO.nil ⟨_, _, rfl, fun _ ht => by cases ht; exact ⟨rfl, .refl _⟩⟩
                    refine .cons rfl rfl rfl (.step ?_) ?_
                    ·
                      refine wpO.val rfl (oper_move rfl) rfl ?_
                      exact wpO.nil ⟨_, _, rfl, fun _ ht => by cases ht; exact ⟨rfl, .refl _⟩⟩
                    refine .cons rfl rfl rfl (.step ?_) ?_
                    ·
                      refine wpO.weak (WeakE.cons (t := 77) rfl (growL H81 (i := 0) rfl) (.refl _)) ?_
                      refine wpO.val rfl (oper_cut_l rfl rfl el31 ue31 (fun z => ((fun _ => rfl) z).trans sz3.symm) hzz84) rfl ?_
                      exact wpO.nil ⟨_, _, rfl, fun _ ht => by cases ht; exact ⟨rfl, .refl _⟩⟩
                    exact .nil
                  have H98 := H81.tightG (([]).map (D.int .i64))
                  refine wpO.append (xs := ([]).map (D.int .i64)) (ys := (z83).map (D.int .i64)) (zs := (z86).map (D.int .i64)) H98 rfl rfl rfl (i := 0) rfl rfl rw31 os31 el31 (app_bound hzz86) nb3 rfl (sizes_map (enc := (D.int .i64)) (fun _ => sz3.symm) _) (sizes_map (enc := (D.int .i64)) (fun _ => sz3.symm) _) zk3 rfl (app_eq hzz86) (fun v99 S100 H101 => ?_)
                  refine wpO.nil ⟨_, _, _, rfl, (fun _ ht => by cases ht; rfl), [some (.d (.sl (([]).map (D.int .i64)) true)), some v62, some (.d (.int .i64 z75)), some (.d (.sl ((z83).map (D.int .i64)) false)), some v99, some (.d (.int .i64 z67.1)), some (.d (.sl (([z67.1]).map (D.int .i64)) true)), none, some v62, some (.d (.int .i64 z75)), some (.d (.sl ((z84).map (D.int .i64)) false)), none, none], (.old (.refl _) (.old (.refl _) (.old (.refl _) (.old (.refl _) (.new (.old (.refl _) (.old (.refl _) (.new (.old (.refl _) (.old (.refl _) (.old (.refl _) (.new (.new .nil))))))))))))), (fun _ ht => by cases ht; exact ⟨_, rfl, .refl _⟩), ?_⟩
                  refine ⟨[5, 6, 8, 9, 10], by kernel_rfl, ?_, _, _, rfl, rfl, .step ?_⟩
                  ·
                    refine .cons rfl rfl rfl (.step ?_) ?_
                    ·
                      refine wpO.val rfl (oper_move rfl) rfl ?_
                      exact wpO.nil ⟨_, _, rfl, fun _ ht => by cases ht; exact ⟨rfl, .refl _⟩⟩
                    refine .cons rfl rfl rfl (.step ?_) ?_
                    ·
                      refine wpO.val rfl (oper_buildSlice (vs := [(.d (.int .i64 z67.1))]) (ds := [(.int .i64 z67.1)]) rw31 el31 ag3 zo3 sz3 rfl (by decide) (.cons rfl rfl .nil) rfl (by intro d hd; simp only [List.mem_cons, List.not_mem_nil, or_false] at hd; rcases hd with rfl <;> rfl) rfl) rfl ?_
                      exact wpO.nil ⟨_, _, rfl, fun _ ht => by cases ht; exact ⟨rfl, .refl _⟩⟩
                    refine .cons rfl rfl rfl (.step ?_) ?_
                    ·
                      refine wpO.val rfl (oper_move rfl) rfl ?_
                      exact wpO.nil ⟨_, _, rfl, fun _ ht => by cases ht; exact ⟨rfl, .refl _⟩⟩
                    refine .cons rfl rfl rfl (.step ?_) ?_
                    ·
                      refine wpO.val rfl (oper_move rfl) rfl ?_
                      exact wpO.nil ⟨_, _, rfl, fun _ ht => by cases ht; exact ⟨rfl, .refl _⟩⟩
                    refine .cons rfl rfl rfl (.step ?_) ?_
                    ·
                      refine wpO.weak (WeakE.cons (t := 77) rfl (growL H101 (i := 1) rfl) (.refl _)) ?_
                      refine wpO.val rfl (oper_cut_l rfl rfl el31 ue31 (fun z => ((fun _ => rfl) z).trans sz3.symm) hzz84) rfl ?_
                      exact wpO.nil ⟨_, _, rfl, fun _ ht => by cases ht; exact ⟨rfl, .refl _⟩⟩
                    exact .nil
                  refine wpO.append (xs := (z86).map (D.int .i64)) (ys := ([z67.1]).map (D.int .i64)) (zs := (z90).map (D.int .i64)) H101 rfl rfl rfl (i := 0) rfl rfl rw31 os31 el31 (app_bound hzz90) nb3 rfl (sizes_map (enc := (D.int .i64)) (fun _ => sz3.symm) _) (sizes_map (enc := (D.int .i64)) (fun _ => sz3.symm) _) zk3 rfl (app_eq hzz90) (fun v102 S103 H104 => ?_)
                  refine wpO.nil ⟨_, _, _, rfl, (fun _ ht => by cases ht; rfl), [some (.d (.sl (([]).map (D.int .i64)) true)), some v62, some (.d (.int .i64 z75)), some (.d (.sl ((z83).map (D.int .i64)) false)), some v99, some (.d (.int .i64 z67.1)), some (.d (.sl (([z67.1]).map (D.int .i64)) true)), some v102, some v62, some (.d (.int .i64 z75)), some (.d (.sl ((z84).map (D.int .i64)) false)), none, none], (.old (.refl _) (.old (.refl _) (.old (.refl _) (.old (.refl _) (.old (.refl _) (.old (.refl _) (.old (.refl _) (.new (.old (.refl _) (.old (.refl _) (.old (.refl _) (.new (.new .nil))))))))))))), (fun _ ht => by cases ht; exact ⟨_, rfl, .refl _⟩), ?_⟩
                  refine ⟨[8, 9, 10], by kernel_rfl, ?_, _, _, rfl, rfl, .step ?_⟩
                  ·
                    refine .cons rfl rfl rfl (.step ?_) ?_
                    ·
                      refine wpO.val rfl (oper_move rfl) rfl ?_
                      exact wpO.nil ⟨_, _, rfl, fun _ ht => by cases ht; exact ⟨rfl, .refl _⟩⟩
                    refine .cons rfl rfl rfl (.step ?_) ?_
                    ·
                      refine wpO.val rfl (oper_move rfl) rfl ?_
                      exact wpO.nil ⟨_, _, rfl, fun _ ht => by cases ht; exact ⟨rfl, .refl _⟩⟩
                    refine .cons rfl rfl rfl (.step ?_) ?_
                    ·
                      refine wpO.weak (WeakE.cons (t := 77) rfl (growL H104 (i := 1) rfl) (.refl _)) ?_
                      refine wpO.val rfl (oper_cut_l rfl rfl el31 ue31 (fun z => ((fun _ => rfl) z).trans sz3.symm) hzz84) rfl ?_
                      exact wpO.nil ⟨_, _, rfl, fun _ ht => by cases ht; exact ⟨rfl, .refl _⟩⟩
                    exact .nil
                  refine wpO.append (xs := (z90).map (D.int .i64)) (ys := (z84).map (D.int .i64)) (zs := (z94).map (D.int .i64)) H104 rfl rfl rfl (i := 0) rfl rfl rw31 os31 el31 (app_bound hzz94) nb3 rfl (sizes_map (enc := (D.int .i64)) (fun _ => sz3.symm) _) (sizes_map (enc := (D.int .i64)) (fun _ => sz3.symm) _) zk3 rfl (app_eq hzz94) (fun v105 S106 H107 => ?_)
                  refine wpO.nil ⟨_, _, _, rfl, (fun _ ht => by cases ht; rfl), [some (.d (.sl (([]).map (D.int .i64)) true)), some v62, some (.d (.int .i64 z75)), some (.d (.sl ((z83).map (D.int .i64)) false)), some v99, some (.d (.int .i64 z67.1)), some (.d (.sl (([z67.1]).map (D.int .i64)) true)), some v102, some v62, some (.d (.int .i64 z75)), some (.d (.sl ((z84).map (D.int .i64)) false)), some v105, some v105], (.old (.refl _) (.old (.refl _) (.old (.refl _) (.old (.refl _) (.old (.refl _) (.old (.refl _) (.old (.refl _) (.old (.refl _) (.old (.refl _) (.old (.refl _) (.old (.refl _) (.new (.new .nil))))))))))))), (fun _ ht => by cases ht; exact ⟨_, rfl, .refl _⟩), ?_⟩
                  refine ⟨[12], by kernel_rfl, ?_, _, rfl, ?_⟩
                  ·
                    refine .cons rfl rfl rfl (.step ?_) ?_
                    ·
                      refine wpO.val rfl (oper_assign rfl) rfl ?_
                      exact wpO.nil ⟨_, _, rfl, fun _ ht => by cases ht; exact ⟨rfl, .refl _⟩⟩
                    exact .nil
                  refine WpC.region E.obj rfl ?_
                  refine wpO.val rfl (oper_move rfl) rfl ?_
                  refine wpO.val rfl (oper_bin rfl rfl binD_add) rfl ?_
                  refine wpO.val rfl (oper_assign rfl) rfl ?_
                  refine wpO.nil ?_
                  exact ⟨⟨z76.2, v68, ws77, w78, z94, v105, (IntKind.wrap .i64 (x63 + 1))⟩, _, _, S106, .refl _ _, .refl _, (WeakE.cons rfl (.refl _) (WeakE.cons rfl (.refl _) (WeakE.cons rfl (.refl _) (WeakE.cons rfl (.refl _) (WeakE.cons rfl (.refl _) (WeakE.cons rfl (.refl _) (WeakE.cons rfl (.refl _) (WeakE.cons rfl (.refl _) WeakE.nil)))))))), H107.sel [0, 2, 3, 4] (by decide) rfl, h⟩
              ·
                replace h := if_f hb66 h
                refine WpC.exit ?_
                refine WpC.seq ?_
                refine WpC.region E.obj rfl ?_
                refine wpO.val rfl (oper_move rfl) rfl ?_
                obtain ⟨z108, hzz108, h⟩ := bind_some h
                refine wpO.retM (ins := [.box b11 [v60, w59], nestA encdom_node dom_node.kids 7 5 v60 ws58 x57.l none, slkA w59 x57.freed]) (more := [.grow v62 ((x61).map (D.int .i64))]) (H56.sel [1, 2, 3, 0] (by decide) rfl) rfl (oper_callF rfl rfl) (dom_Dom_Count_ok E n _ _ hzz108 b11 v60 ws58 w59) (.cons (.refl _) .nil) rfl ?_
                rintro _ S109 _ ⟨rfl, rfl⟩ H110
                replace H110 : Has pureSt S109 [.box b11 [v60, w59], nestA encdom_node dom_node.kids 7 5 v60 ws58 x57.l none, slkA w59 x57.freed, .grow v62 ((x61).map (D.int .i64))] := H110
                have H111 : Has pureSt S109 [.grow v62 ((x61).map (D.int .i64)), .box b11 [v60, w59], nestA encdom_node dom_node.kids 7 5 v60 ws58 x57.l none, slkA w59 x57.freed] := H110.sel [3, 0, 1, 2] (by decide) rfl
                refine wpO.val rfl (oper_assign rfl) rfl ?_
                refine wpO.nil ?_
                refine WpC.seq ?_
                refine WpC.seq ?_
                refine WpC.region E.obj rfl ?_
                refine wpO.val rfl (oper_assign rfl) rfl ?_
                refine wpO.nil ?_
                refine WpC.block ?_
                refine WpL.start (B := pureSt) (α := dom_Dom × (List (List AV)) × AV × (List Int) × AV × Int) (fun k a => porticolaw12_DomMoves_l130 n a2 a3 z16 z23 z108 k a.1 a.2.2.2.1 a.2.2.2.2.2 = some r) (fun a => [(1, (.d (.sl ((a2).map (D.int .i64)) false))), (2, (.d (.sl ((a3).map (D.int .i64)) false))), (7, (.ptr b11 0 0)), (8, (.d (.int .i64 z16.1))), (9, (.d (.int .i64 z23.1))), (10, a.2.2.2.2.1), (14, (.d (.int .i64 z108))), (15, (.d (.int .i64 a.2.2.2.2.2)))]) (fun a => [.grow a.2.2.2.2.1 ((a.2.2.2.1).map (D.int .i64)), .box b11 [v60, a.2.2.1], nestA encdom_node dom_node.kids 7 5 v60 a.2.1 a.1.l none, slkA a.2.2.1 a.1.freed]) ?_ ?_ n ⟨⟨x57, ws58, w59, x61, v62, 0⟩, _, _, S109, .refl _ _, .refl _, (WeakE.cons rfl (.refl _) (WeakE.cons rfl (.refl _) (WeakE.cons rfl (.refl _) (WeakE.cons rfl (.refl _) (WeakE.cons rfl (.refl _) (WeakE.cons rfl (.refl _) (WeakE.cons rfl (.refl _) (WeakE.cons rfl (.refl _) WeakE.nil)))))))), H111.sel [0, 1, 2, 3] (by decide) rfl, h⟩
                · intro a h; simp [porticolaw12_DomMoves_l130] at h
                ·
                  intro k130 a S122 H123 h
                  obtain ⟨x124, ws125, w126, x127, v128, x129⟩ := a
                  replace h : porticolaw12_DomMoves_l130 n a2 a3 z16 z23 z108 (k130 + 1) x124 x127 x129 = some r := h
                  replace H123 : Has pureSt S122 [.grow v128 ((x127).map (D.int .i64)), .box b11 [v60, w126], nestA encdom_node dom_node.kids 7 5 v60 ws125 x124.l none, slkA w126 x124.freed] := H123
                  unfold porticolaw12_DomMoves_l130 at h
                  refine WpC.seq ?_
                  refine WpC.seq ?_
                  refine WpC.region E.obj rfl ?_
                  refine wpO.val rfl (oper_move rfl) rfl ?_
                  refine wpO.val rfl (oper_move rfl) rfl ?_
                  refine wpO.val rfl (oper_lenL rfl es31) rfl ?_
                  refine wpO.val rfl (oper_bin rfl rfl binD_lss) rfl ?_
                  refine wpO.val rfl (oper_move rfl) rfl ?_
                  refine wpO.groupV 5 92 (.d (.bool ((decide (x129 < ((a2).length : Int))) && (decide (x129 < ((a3).length : Int)))))) ?_ ?_
                  ·
                    rcases Bool.eq_false_or_eq_true ((decide (x129 < ((a2).length : Int)))) with hB131 | hB131
                    ·
                      refine wpO.bool hB131 ?_
                      refine wpO.val rfl (oper_move rfl) rfl ?_
                      refine wpO.val rfl (oper_move rfl) rfl ?_
                      refine wpO.val rfl (oper_lenL rfl es31) rfl ?_
                      refine wpO.val rfl (oper_bin rfl rfl binD_lss) rfl ?_
                      refine wpO.val rfl (oper_pick (b := true) rfl rfl) rfl ?_
                      exact wpO.nil ⟨_, rfl, (WeakE.put (WeakE.push rfl (WeakE.push rfl (WeakE.push rfl (WeakE.push rfl (WeakE.put (.refl _) (Less.eq (by rw [hB131]))))))) (Less.eq (by rw [hB131]; rw [Bool.true_and])))⟩
                    ·
                      refine wpO.bool hB131 ?_
                      refine wpO.no rfl rfl ?_
                      refine wpO.no rfl rfl ?_
                      refine wpO.no rfl rfl ?_
                      refine wpO.no rfl rfl ?_
                      refine wpO.val rfl (oper_pick (b := false) rfl rfl) rfl ?_
                      exact wpO.nil ⟨_, rfl, (WeakE.put (WeakE.push rfl (WeakE.push rfl (WeakE.push rfl (WeakE.push rfl (WeakE.put (.refl _) (Less.eq (by rw [hB131]))))))) (Less.eq (by rw [hB131]; rw [Bool.false_and])))⟩
                  ·
                    refine wpO.val rfl (oper_move rfl) rfl ?_
                    refine wpO.groupV 3 96 (.d (.bool (((decide (x129 < ((a2).length : Int))) && (decide (x129 < ((a3).length : Int)))) && (decide (x129 < 12))))) ?_ ?_
                    ·
                      rcases Bool.eq_false_or_eq_true (((decide (x129 < ((a2).length : Int))) && (decide (x129 < ((a3).length : Int))))) with hB132 | hB132
                      ·
                        refine wpO.bool hB132 ?_
                        refine wpO.val rfl (oper_move rfl) rfl ?_
                        refine wpO.val rfl (oper_bin rfl rfl binD_lss) rfl ?_
                        refine wpO.val rfl (oper_pick (b := true) rfl rfl) rfl ?_
                        exact wpO.nil ⟨_, rfl, (WeakE.put (WeakE.push rfl (WeakE.push rfl (WeakE.put (.refl _) (Less.eq (by rw [hB132]))))) (Less.eq (by rw [hB132]; rw [Bool.true_and])))⟩
                      ·
                        refine wpO.bool hB132 ?_
                        refine wpO.no rfl rfl ?_
                        refine wpO.no rfl rfl ?_
                        refine wpO.val rfl (oper_pick (b := false) rfl rfl) rfl ?_
                        exact wpO.nil ⟨_, rfl, (WeakE.put (WeakE.push rfl (WeakE.push rfl (WeakE.put (.refl _) (Less.eq (by rw [hB132]))))) (Less.eq (by rw [hB132]; rw [Bool.false_and])))⟩
                    ·
                      refine wpO.val rfl (oper_move rfl) rfl ?_
                      refine wpO.groupV 4 101 (.d (.bool ((((decide (x129 < ((a2).length : Int))) && (decide (x129 < ((a3).length : Int)))) && (decide (x129 < 12))) && (decide (0 < ((x127).length : Int)))))) ?_ ?_
                      ·
                        rcases Bool.eq_false_or_eq_true ((((decide (x129 < ((a2).length : Int))) && (decide (x129 < ((a3).length : Int)))) && (decide (x129 < 12)))) with hB133 | hB133
                        ·
                          refine wpO.bool hB133 ?_
                          refine wpO.val rfl (oper_move rfl) rfl ?_
                          refine wpO.val rfl (oper_lenG H123 (i := 0) rfl rfl es31) rfl ?_
                          refine wpO.val rfl (oper_bin rfl rfl binD_gtr) rfl ?_
                          refine wpO.val rfl (oper_pick (b := true) rfl rfl) rfl ?_
                          exact wpO.nil ⟨_, rfl, (WeakE.put (WeakE.push rfl (WeakE.push rfl (WeakE.push rfl (WeakE.put (.refl _) (Less.eq (by rw [hB133])))))) (Less.eq (by rw [hB133]; rw [Bool.true_and])))⟩
                        ·
                          refine wpO.bool hB133 ?_
                          refine wpO.no rfl rfl ?_
                          refine wpO.no rfl rfl ?_
                          refine wpO.no rfl rfl ?_
                          refine wpO.val rfl (oper_pick (b := false) rfl rfl) rfl ?_
                          exact wpO.nil ⟨_, rfl, (WeakE.put (WeakE.push rfl (WeakE.push rfl (WeakE.push rfl (WeakE.put (.refl _) (Less.eq (by rw [hB133])))))) (Less.eq (by rw [hB133]; rw [Bool.false_and])))⟩
                      ·
                        refine wpO.nil ?_
                        refine WpC.cond rfl (fun hb134 => ?_) (fun hb134 => ?_)
                        ·
                          replace h := if_t hb134 h
                          refine WpC.skip ?_
                          refine WpC.seq ?_
                          refine WpC.block ?_
                          refine WpC.seq ?_
                          refine WpC.region E.obj rfl ?_
                          refine wpO.val rfl (oper_move rfl) rfl ?_
                          refine wpO.val rfl (oper_move rfl) rfl ?_
                          obtain ⟨z135, hzz135, h⟩ := bind_some h
                          refine wpO.val rfl (oper_idx rfl rfl (idxAddr (enc := (D.int .i64)) hzz135 el31 as3 (((fun _ => rfl) _).trans sz3.symm))) rfl ?_
                          refine wpO.val rfl (oper_loadE rfl (partD_one ag3 rfl)) rfl ?_
                          refine wpO.val rfl (oper_move rfl) rfl ?_
                          refine wpO.val rfl (oper_lenG H123 (i := 0) rfl rfl es31) rfl ?_
                          refine wpO.val rfl (oper_bin rfl rfl binD_sub) rfl ?_
                          obtain ⟨z136, hzz136, h⟩ := bind_some h
                          refine wpO.ret rfl (oper_callF rfl rfl) (porticobook_Within_ok E _ _ _ _ _ hzz136 _ _ (ArgsC.eq (ArgsC.eq (ArgsC.eq .nil)))) rfl ?_
                          refine wpO.val rfl (oper_assign rfl) rfl ?_
                          refine wpO.nil ?_
                          refine WpC.seq ?_
                          refine WpC.region E.obj rfl ?_
                          refine wpO.val rfl (oper_move rfl) rfl ?_
                          refine wpO.val rfl (oper_move rfl) rfl ?_
                          obtain ⟨z137, hzz137, h⟩ := bind_some h
                          refine wpO.val rfl (oper_idx rfl rfl (idxAddr_grow (enc := (D.int .i64)) H123 (i := 0) rfl hzz137 el31 as3 (((fun _ => rfl) _).trans sz3.symm))) rfl ?_
                          refine wpO.val rfl (oper_loadE rfl (partD_one ag3 rfl)) rfl ?_
                          refine wpO.val rfl (oper_assign rfl) rfl ?_
                          refine wpO.nil ?_
                          refine WpC.seq ?_
                          obtain ⟨z138, hzz138, h⟩ := bind_some h
                          obtain ⟨z139, hzz139, h⟩ := bind_some h
                          obtain ⟨z141, hzz141, h⟩ := bind_some h
                          obtain ⟨z145, hzz145, h⟩ := bind_some h
                          refine WpC.drawP E.obj hmix [[], [(10, none)], [(16, none)], [(117, some 1), (118, some 2)], [(116, some 0), (119, some 3)], [(10, none)], [(16, none)], [(122, some 6)], [(121, some 5), (123, some 7)], [(120, some 4), (124, some 8)], [(125, some 9)]] [(1, none), (2, none), (7, none), (8, none), (9, none), (14, none), (15, none), (17, none), (18, some 10)] (by kernel_rfl) [4, 9] (by decide) [some (.d (.sl (([]).map (D.int .i64)) true)), some v128, some (.d (.int .i64 z136)), some (.d (.sl ((z138).map (D.int .i64)) false)), none, some v128, some (.d (.int .i64 z136)), some (.d (.int .i64 (IntKind.wrap .i64 (z136 + 1)))), some (.d (.sl ((z139).map (D.int .i64)) false)), none, none] ?_
                          refine ⟨[0, 1, 2, 3, 5, 6, 7, 8], by kernel_rfl, ?_, _, _, rfl, rfl, .step ?_⟩
                          ·
                            refine .cons rfl rfl rfl (.step ?_) ?_
                            ·
                              refine wpO.val rfl (oper_buildSlice0 rw31 el31 ag3) rfl ?_
                              exact wpO.nil ⟨_, _, rfl, fun _ ht => by cases ht; exact ⟨rfl, .refl _⟩⟩
                            refine .cons rfl rfl rfl (.step ?_) ?_
                            ·
                              refine wpO.val rfl (oper_move rfl) rfl ?_
                              exact wpO.nil ⟨_, _, rfl, fun _ ht => by cases ht; exact ⟨rfl, .refl _⟩⟩
                            refine .cons rfl rfl rfl (.step ?_) ?_
                            ·
                              refine wpO.val rfl (oper_move rfl) rfl ?_
                              exact wpO.nil ⟨_, _, rfl, fun _ ht => by cases ht; exact ⟨rfl, .refl _⟩⟩
                            refine .cons rfl rfl rfl (.step ?_) ?_
                            ·
                              refine wpO.weak (WeakE.cons (t := 117) rfl (growL H123 (i := 0) rfl) (.refl _)) ?_
                              refine wpO.val rfl (oper_cut_h rfl rfl el31 ue31 (fun z => ((fun _ => rfl) z).trans sz3.symm) hzz138) rfl ?_
                              exact wpO.nil ⟨_, _, rfl, fun _ ht => by cases ht; exact ⟨rfl, .refl _⟩⟩
                            refine .cons rfl rfl rfl (.step ?_) ?_
                            ·
                              refine wpO.val rfl (oper_move rfl) rfl ?_
                              exact wpO.nil ⟨_, _, rfl, fun _ ht => by cases ht; exact ⟨rfl, .refl _⟩⟩
                            refine .cons rfl rfl rfl (.step ?_) ?_
                            ·
                              refine wpO.val rfl (oper_move rfl) rfl ?_
                              exact wpO.nil ⟨_, _, rfl, fun _ ht => by cases ht; exact ⟨rfl, .refl _⟩⟩
                            refine .cons rfl rfl rfl (.step ?_) ?_
                            ·
                              refine wpO.val rfl (oper_bin rfl rfl binD_add) rfl ?_
                              exact wpO.nil ⟨_, _, rfl, fun _ ht => by cases ht; exact ⟨rfl, .refl _⟩⟩
                            refine .cons rfl rfl rfl (.step ?_) ?_
                            ·
                              refine wpO.weak (WeakE.cons (t := 121) rfl (growL H123 (i := 0) rfl) (.refl _)) ?_
                              refine wpO.val rfl (oper_cut_l rfl rfl el31 ue31 (fun z => ((fun _ => rfl) z).trans sz3.symm) hzz139) rfl ?_
                              exact wpO.nil ⟨_, _, rfl, fun _ ht => by cases ht; exact ⟨rfl, .refl _⟩⟩
                            exact .nil
                          have H149 := H123.tightG (([]).map (D.int .i64))
                          refine wpO.append (xs := ([]).map (D.int .i64)) (ys := (z138).map (D.int .i64)) (zs := (z141).map (D.int .i64)) H149 rfl rfl rfl (i := 0) rfl rfl rw31 os31 el31 (app_bound hzz141) nb3 rfl (sizes_map (enc := (D.int .i64)) (fun _ => sz3.symm) _) (sizes_map (enc := (D.int .i64)) (fun _ => sz3.symm) _) zk3 rfl (app_eq hzz141) (fun v150 S151 H152 => ?_)
                          refine wpO.nil ⟨_, _, _, rfl, (fun _ ht => by cases ht; rfl), [some (.d (.sl (([]).map (D.int .i64)) true)), some v128, some (.d (.int .i64 z136)), some (.d (.sl ((z138).map (D.int .i64)) false)), some v150, some v128, some (.d (.int .i64 z136)), some (.d (.int .i64 (IntKind.wrap .i64 (z136 + 1)))), some (.d (.sl ((z139).map (D.int .i64)) false)), none, none], (.old (.refl _) (.old (.refl _) (.old (.refl _) (.old (.refl _) (.new (.old (.refl _) (.old (.refl _) (.old (.refl _) (.old (.refl _) (.new (.new .nil))))))))))), (fun _ ht => by cases ht; exact ⟨_, rfl, .refl _⟩), ?_⟩
                          refine ⟨[5, 6, 7, 8], by kernel_rfl, ?_, _, _, rfl, rfl, .step ?_⟩
                          ·
                            refine .cons rfl rfl rfl (.step ?_) ?_
                            ·
                              refine wpO.val rfl (oper_move rfl) rfl ?_
                              exact wpO.nil ⟨_, _, rfl, fun _ ht => by cases ht; exact ⟨rfl, .refl _⟩⟩
                            refine .cons rfl rfl rfl (.step ?_) ?_
                            ·
                              refine wpO.val rfl (oper_move rfl) rfl ?_
                              exact wpO.nil ⟨_, _, rfl, fun _ ht => by cases ht; exact ⟨rfl, .refl _⟩⟩
                            refine .cons rfl rfl rfl (.step ?_) ?_
                            ·
                              refine wpO.val rfl (oper_bin rfl rfl binD_add) rfl ?_
                              exact wpO.nil ⟨_, _, rfl, fun _ ht => by cases ht; exact ⟨rfl, .refl _⟩⟩
                            refine .cons rfl rfl rfl (.step ?_) ?_
                            ·
                              refine wpO.weak (WeakE.cons (t := 121) rfl (growL H152 (i := 1) rfl) (.refl _)) ?_
                              refine wpO.val rfl (oper_cut_l rfl rfl el31 ue31 (fun z => ((fun _ => rfl) z).trans sz3.symm) hzz139) rfl ?_
                              exact wpO.nil ⟨_, _, rfl, fun _ ht => by cases ht; exact ⟨rfl, .refl _⟩⟩
                            exact .nil
                          refine wpO.append (xs := (z141).map (D.int .i64)) (ys := (z139).map (D.int .i64)) (zs := (z145).map (D.int .i64)) H152 rfl rfl rfl (i := 0) rfl rfl rw31 os31 el31 (app_bound hzz145) nb3 rfl (sizes_map (enc := (D.int .i64)) (fun _ => sz3.symm) _) (sizes_map (enc := (D.int .i64)) (fun _ => sz3.symm) _) zk3 rfl (app_eq hzz145) (fun v153 S154 H155 => ?_)
                          refine wpO.nil ⟨_, _, _, rfl, (fun _ ht => by cases ht; rfl), [some (.d (.sl (([]).map (D.int .i64)) true)), some v128, some (.d (.int .i64 z136)), some (.d (.sl ((z138).map (D.int .i64)) false)), some v150, some v128, some (.d (.int .i64 z136)), some (.d (.int .i64 (IntKind.wrap .i64 (z136 + 1)))), some (.d (.sl ((z139).map (D.int .i64)) false)), some v153, some v153], (.old (.refl _) (.old (.refl _) (.old (.refl _) (.old (.refl _) (.old (.refl _) (.old (.refl _) (.old (.refl _) (.old (.refl _) (.old (.refl _) (.new (.new .nil))))))))))), (fun _ ht => by cases ht; exact ⟨_, rfl, .refl _⟩), ?_⟩
                          refine ⟨[10], by kernel_rfl, ?_, _, rfl, ?_⟩
                          ·
                            refine .cons rfl rfl rfl (.step ?_) ?_
                            ·
                              refine wpO.val rfl (oper_assign rfl) rfl ?_
                              exact wpO.nil ⟨_, _, rfl, fun _ ht => by cases ht; exact ⟨rfl, .refl _⟩⟩
                            exact .nil
                          refine WpC.seq ?_
                          refine WpC.region E.obj rfl ?_
                          refine wpO.val rfl (oper_move rfl) rfl ?_
                          refine wpO.val rfl (oper_move rfl) rfl ?_
                          obtain ⟨z156, hzz156, h⟩ := bind_some h
                          refine wpO.val rfl (oper_idx rfl rfl (idxAddr (enc := (D.int .i64)) hzz156 el31 as3 (((fun _ => rfl) _).trans sz3.symm))) rfl ?_
                          refine wpO.val rfl (oper_loadE rfl (partD_one ag3 rfl)) rfl ?_
                          refine wpO.val rfl (oper_move rfl) rfl ?_
                          refine wpO.val rfl (oper_lenG H155 (i := 0) rfl rfl es31) rfl ?_
                          obtain ⟨z157, hzz157, h⟩ := bind_some h
                          refine wpO.ret rfl (oper_callF rfl rfl) (porticobook_Within_ok E _ _ _ _ _ hzz157 _ _ (ArgsC.eq (ArgsC.eq (ArgsC.eq .nil)))) rfl ?_
                          refine wpO.val rfl (oper_assign rfl) rfl ?_
                          refine wpO.nil ?_
                          refine WpC.seq ?_
                          refine WpC.seq ?_
                          refine WpC.region E.obj rfl ?_
                          refine wpO.val rfl (oper_move rfl) rfl ?_
                          refine wpO.val rfl (oper_move rfl) rfl ?_
                          refine wpO.val rfl (oper_move rfl) rfl ?_
                          refine wpO.val rfl (oper_move rfl) rfl ?_
                          obtain ⟨z158, hzz158, h⟩ := bind_some h
                          refine wpO.retM (ins := [.box b11 [v60, w126], nestA encdom_node dom_node.kids 7 5 v60 ws125 x124.l none, slkA w126 x124.freed]) (more := [.grow v153 ((z145).map (D.int .i64)), .grow v128 ((x127).map (D.int .i64))]) (H155.sel [2, 3, 4, 0, 1] (by decide) rfl) rfl (oper_callF rfl rfl) (dom_Dom_Insert_ok E n _ _ _ _ _ hzz158 b11 v60 ws125 w126) (.cons (.refl _) (.cons (.refl _) (.cons (.refl _) (.cons (.refl _) .nil)))) rfl ?_
                          rintro _ S161 _ ⟨rfl, ws159, w160, rfl⟩ H162
                          replace H162 : Has pureSt S161 [.box b11 [v60, w160], nestA encdom_node dom_node.kids 7 5 v60 ws159 z158.2.l none, slkA w160 z158.2.freed, .grow v153 ((z145).map (D.int .i64)), .grow v128 ((x127).map (D.int .i64))] := H162
                          have H163 : Has pureSt S161 [.grow v153 ((z145).map (D.int .i64)), .grow v128 ((x127).map (D.int .i64)), .box b11 [v60, w160], nestA encdom_node dom_node.kids 7 5 v60 ws159 z158.2.l none, slkA w160 z158.2.freed] := H162.sel [3, 4, 0, 1, 2] (by decide) rfl
                          refine wpO.val rfl (oper_not rfl) rfl ?_
                          refine wpO.nil ?_
                          refine WpC.cond rfl (fun hb164 => ?_) (fun hb164 => ?_)
                          ·
                            replace h := if_t hb164 h
                            refine WpC.seq ?_
                            refine WpC.region E.obj rfl ?_
                            refine wpO.val rfl (oper_assign rfl) rfl ?_
                            refine wpO.nil ?_
                            have hr := Option.some.inj h
                            subst hr
                            exact WpC.ret ⟨_, rfl, rfl, end1 (ArgsC.eq .nil)⟩
                          ·
                            replace h := if_f hb164 h
                            refine WpC.skip ?_
                            refine WpC.seq ?_
                            obtain ⟨z165, hzz165, h⟩ := bind_some h
                            obtain ⟨z166, hzz166, h⟩ := bind_some h
                            obtain ⟨z168, hzz168, h⟩ := bind_some h
                            obtain ⟨z172, hzz172, h⟩ := bind_some h
                            obtain ⟨z176, hzz176, h⟩ := bind_some h
                            refine WpC.drawP E.obj hmix [[], [(18, none)], [(19, none)], [(140, some 1), (141, some 2)], [(139, some 0), (142, some 3)], [(17, none)], [(144, some 5)], [(143, some 4), (145, some 6)], [(18, none)], [(19, none)], [(147, some 8), (148, some 9)], [(146, some 7), (149, some 10)], [(150, some 11)]] [(1, none), (2, none), (7, none), (8, none), (9, none), (10, some 12), (14, none), (15, none), (17, none)] (by kernel_rfl) [4, 7, 11] (by decide) [some (.d (.sl (([]).map (D.int .i64)) true)), some v153, some (.d (.int .i64 z157)), some (.d (.sl ((z165).map (D.int .i64)) false)), none, some (.d (.int .i64 z137)), some (.d (.sl (([z137]).map (D.int .i64)) true)), none, some v153, some (.d (.int .i64 z157)), some (.d (.sl ((z166).map (D.int .i64)) false)), none, none] ?_
                            refine ⟨[0, 1, 2, 3, 5, 6, 8, 9, 10], by kernel_rfl, ?_, _, _, rfl, rfl, .step ?_⟩
                            ·
                              refine .cons rfl rfl rfl (.step ?_) ?_
                              ·
                                refine wpO.val rfl (oper_buildSlice0 rw31 el31 ag3) rfl ?_
                                exact wpO.nil ⟨_, _, rfl, fun _ ht => by cases ht; exact ⟨rfl, .refl _⟩⟩
                              refine .cons rfl rfl rfl (.step ?_) ?_
                              ·
                                refine wpO.val rfl (oper_move rfl) rfl ?_
                                exact wpO.nil ⟨_, _, rfl, fun _ ht => by cases ht; exact ⟨rfl, .refl _⟩⟩
                              refine .cons rfl rfl rfl (.step ?_) ?_
                              ·
                                refine wpO.val rfl (oper_move rfl) rfl ?_
                                exact wpO.nil ⟨_, _, rfl, fun _ ht => by cases ht; exact ⟨rfl, .refl _⟩⟩
                              refine .cons rfl rfl rfl (.step ?_) ?_
                              ·
                                refine wpO.weak (WeakE.cons (t := 140) rfl (growL H163 (i := 0) rfl) (.refl _)) ?_
                                refine wpO.val rfl (oper_cut_h rfl rfl el31 ue31 (fun z => ((fun _ => rfl) z).trans sz3.symm) hzz165) rfl ?_
                                exact wpO.nil ⟨_, _, rfl, fun _ ht => by cases ht; exact ⟨rfl, .refl _⟩⟩
                              refine .cons rfl rfl rfl (.step ?_) ?_
                              ·
                                refine wpO.val rfl (oper_move rfl) rfl ?_
                                exact wpO.nil ⟨_, _, rfl, fun _ ht => by cases ht; exact ⟨rfl, .refl _⟩⟩
                              refine .cons rfl rfl rfl (.step ?_) ?_
                              ·
                                refine wpO.val rfl (oper_buildSlice (vs := [(.d (.int .i64 z137))]) (ds := [(.int .i64 z137)]) rw31 el31 ag3 zo3 sz3 rfl (by decide) (.cons rfl rfl .nil) rfl (by intro d hd; simp only [List.mem_cons, List.not_mem_nil, or_false] at hd; rcases hd with rfl <;> rfl) rfl) rfl ?_
                                exact wpO.nil ⟨_, _, rfl, fun _ ht => by cases ht; exact ⟨rfl, .refl _⟩⟩
                              refine .cons rfl rfl rfl (.step ?_) ?_
                              ·
                                refine wpO.val rfl (oper_move rfl) rfl ?_
                                exact wpO.nil ⟨_, _, rfl, fun _ ht => by cases ht; exact ⟨rfl, .refl _⟩⟩
                              refine .cons rfl rfl rfl (.step ?_) ?_
                              ·
                                refine wpO.val rfl (oper_move rfl) rfl ?_
                                exact wpO.nil ⟨_, _, rfl, fun _ ht => by cases ht; exact ⟨rfl, .refl _⟩⟩
                              refine .cons rfl rfl rfl (.step ?_) ?_
                              ·
                                refine wpO.weak (WeakE.cons (t := 147) rfl (growL H163 (i := 0) rfl) (.refl _)) ?_
                                refine wpO.val rfl (oper_cut_l rfl rfl el31 ue31 (fun z => ((fun _ => rfl) z).trans sz3.symm) hzz166) rfl ?_
                                exact wpO.nil ⟨_, _, rfl, fun _ ht => by cases ht; exact ⟨rfl, .refl _⟩⟩
                              exact .nil
                            have H180 := H163.tightG (([]).map (D.int .i64))
                            refine wpO.append (xs := ([]).map (D.int .i64)) (ys := (z165).map (D.int .i64)) (zs := (z168).map (D.int .i64)) H180 rfl rfl rfl (i := 0) rfl rfl rw31 os31 el31 (app_bound hzz168) nb3 rfl (sizes_map (enc := (D.int .i64)) (fun _ => sz3.symm) _) (sizes_map (enc := (D.int .i64)) (fun _ => sz3.symm) _) zk3 rfl (app_eq hzz168) (fun v181 S182 H183 => ?_)
                            refine wpO.nil ⟨_, _, _, rfl, (fun _ ht => by cases ht; rfl), [some (.d (.sl (([]).map (D.int .i64)) true)), some v153, some (.d (.int .i64 z157)), some (.d (.sl ((z165).map (D.int .i64)) false)), some v181, some (.d (.int .i64 z137)), some (.d (.sl (([z137]).map (D.int .i64)) true)), none, some v153, some (.d (.int .i64 z157)), some (.d (.sl ((z166).map (D.int .i64)) false)), none, none], (.old (.refl _) (.old (.refl _) (.old (.refl _) (.old (.refl _) (.new (.old (.refl _) (.old (.refl _) (.new (.old (.refl _) (.old (.refl _) (.old (.refl _) (.new (.new .nil))))))))))))), (fun _ ht => by cases ht; exact ⟨_, rfl, .refl _⟩), ?_⟩
                            refine ⟨[5, 6, 8, 9, 10], by kernel_rfl, ?_, _, _, rfl, rfl, .step ?_⟩
                            ·
                              refine .cons rfl rfl rfl (.step ?_) ?_
                              ·
                                refine wpO.val rfl (oper_move rfl) rfl ?_
                                exact wpO.nil ⟨_, _, rfl, fun _ ht => by cases ht; exact ⟨rfl, .refl _⟩⟩
                              refine .cons rfl rfl rfl (.step ?_) ?_
                              ·
                                refine wpO.val rfl (oper_buildSlice (vs := [(.d (.int .i64 z137))]) (ds := [(.int .i64 z137)]) rw31 el31 ag3 zo3 sz3 rfl (by decide) (.cons rfl rfl .nil) rfl (by intro d hd; simp only [List.mem_cons, List.not_mem_nil, or_false] at hd; rcases hd with rfl <;> rfl) rfl) rfl ?_
                                exact wpO.nil ⟨_, _, rfl, fun _ ht => by cases ht; exact ⟨rfl, .refl _⟩⟩
                              refine .cons rfl rfl rfl (.step ?_) ?_
                              ·
                                refine wpO.val rfl (oper_move rfl) rfl ?_
                                exact wpO.nil ⟨_, _, rfl, fun _ ht => by cases ht; exact ⟨rfl, .refl _⟩⟩
                              refine .cons rfl rfl rfl (.step ?_) ?_
                              ·
                                refine wpO.val rfl (oper_move rfl) rfl ?_
                                exact wpO.nil ⟨_, _, rfl, fun _ ht => by cases ht; exact ⟨rfl, .refl _⟩⟩
                              refine .cons rfl rfl rfl (.step ?_) ?_
                              ·
                                refine wpO.weak (WeakE.cons (t := 147) rfl (growL H183 (i := 1) rfl) (.refl _)) ?_
                                refine wpO.val rfl (oper_cut_l rfl rfl el31 ue31 (fun z => ((fun _ => rfl) z).trans sz3.symm) hzz166) rfl ?_
                                exact wpO.nil ⟨_, _, rfl, fun _ ht => by cases ht; exact ⟨rfl, .refl _⟩⟩
                              exact .nil
                            refine wpO.append (xs := (z168).map (D.int .i64)) (ys := ([z137]).map (D.int .i64)) (zs := (z172).map (D.int .i64)) H183 rfl rfl rfl (i := 0) rfl rfl rw31 os31 el31 (app_bound hzz172) nb3 rfl (sizes_map (enc := (D.int .i64)) (fun _ => sz3.symm) _) (sizes_map (enc := (D.int .i64)) (fun _ => sz3.symm) _) zk3 rfl (app_eq hzz172) (fun v184 S185 H186 => ?_)
                            refine wpO.nil ⟨_, _, _, rfl, (fun _ ht => by cases ht; rfl), [some (.d (.sl (([]).map (D.int .i64)) true)), some v153, some (.d (.int .i64 z157)), some (.d (.sl ((z165).map (D.int .i64)) false)), some v181, some (.d (.int .i64 z137)), some (.d (.sl (([z137]).map (D.int .i64)) true)), some v184, some v153, some (.d (.int .i64 z157)), some (.d (.sl ((z166).map (D.int .i64)) false)), none, none], (.old (.refl _) (.old (.refl _) (.old (.refl _) (.old (.refl _) (.old (.refl _) (.old (.refl _) (.old (.refl _) (.new (.old (.refl _) (.old (.refl _) (.old (.refl _) (.new (.new .nil))))))))))))), (fun _ ht => by cases ht; exact ⟨_, rfl, .refl _⟩), ?_⟩
                            refine ⟨[8, 9, 10], by kernel_rfl, ?_, _, _, rfl, rfl, .step ?_⟩
                            ·
                              refine .cons rfl rfl rfl (.step ?_) ?_
                              ·
                                refine wpO.val rfl (oper_move rfl) rfl ?_
                                exact wpO.nil ⟨_, _, rfl, fun _ ht => by cases ht; exact ⟨rfl, .refl _⟩⟩
                              refine .cons rfl rfl rfl (.step ?_) ?_
                              ·
                                refine wpO.val rfl (oper_move rfl) rfl ?_
                                exact wpO.nil ⟨_, _, rfl, fun _ ht => by cases ht; exact ⟨rfl, .refl _⟩⟩
                              refine .cons rfl rfl rfl (.step ?_) ?_
                              ·
                                refine wpO.weak (WeakE.cons (t := 147) rfl (growL H186 (i := 1) rfl) (.refl _)) ?_
                                refine wpO.val rfl (oper_cut_l rfl rfl el31 ue31 (fun z => ((fun _ => rfl) z).trans sz3.symm) hzz166) rfl ?_
                                exact wpO.nil ⟨_, _, rfl, fun _ ht => by cases ht; exact ⟨rfl, .refl _⟩⟩
                              exact .nil
                            refine wpO.append (xs := (z172).map (D.int .i64)) (ys := (z166).map (D.int .i64)) (zs := (z176).map (D.int .i64)) H186 rfl rfl rfl (i := 0) rfl rfl rw31 os31 el31 (app_bound hzz176) nb3 rfl (sizes_map (enc := (D.int .i64)) (fun _ => sz3.symm) _) (sizes_map (enc := (D.int .i64)) (fun _ => sz3.symm) _) zk3 rfl (app_eq hzz176) (fun v187 S188 H189 => ?_)
                            refine wpO.nil ⟨_, _, _, rfl, (fun _ ht => by cases ht; rfl), [some (.d (.sl (([]).map (D.int .i64)) true)), some v153, some (.d (.int .i64 z157)), some (.d (.sl ((z165).map (D.int .i64)) false)), some v181, some (.d (.int .i64 z137)), some (.d (.sl (([z137]).map (D.int .i64)) true)), some v184, some v153, some (.d (.int .i64 z157)), some (.d (.sl ((z166).map (D.int .i64)) false)), some v187, some v187], (.old (.refl _) (.old (.refl _) (.old (.refl _) (.old (.refl _) (.old (.refl _) (.old (.refl _) (.old (.refl _) (.old (.refl _) (.old (.refl _) (.old (.refl _) (.old (.refl _) (.new (.new .nil))))))))))))), (fun _ ht => by cases ht; exact ⟨_, rfl, .refl _⟩), ?_⟩
                            refine ⟨[12], by kernel_rfl, ?_, _, rfl, ?_⟩
                            ·
                              refine .cons rfl rfl rfl (.step ?_) ?_
                              ·
                                refine wpO.val rfl (oper_assign rfl) rfl ?_
                                exact wpO.nil ⟨_, _, rfl, fun _ ht => by cases ht; exact ⟨rfl, .refl _⟩⟩
                              exact .nil
                            refine WpC.seq ?_
                            refine WpC.region E.obj rfl ?_
                            refine wpO.val rfl (oper_move rfl) rfl ?_
                            refine wpO.val rfl (oper_move rfl) rfl ?_
                            obtain ⟨z190, hzz190, h⟩ := bind_some h
                            refine wpO.retM (ins := [.box b11 [v60, w160], nestA encdom_node dom_node.kids 7 5 v60 ws159 z158.2.l none, slkA w160 z158.2.freed]) (more := [.grow v187 ((z176).map (D.int .i64)), .grow v153 ((z145).map (D.int .i64)), .grow v128 ((x127).map (D.int .i64))]) (H189.sel [3, 4, 5, 0, 1, 2] (by decide) rfl) rfl (oper_callF rfl rfl) (dom_Dom_Kids_ok E n _ _ _ hzz190 b11 v60 ws159 w160) (.cons (.refl _) (.cons (.refl _) .nil)) rfl ?_
                            rintro _ S191 _ ⟨rfl, rfl⟩ H192
                            replace H192 : Has pureSt S191 [.box b11 [v60, w160], nestA encdom_node dom_node.kids 7 5 v60 ws159 z158.2.l none, slkA w160 z158.2.freed, .grow v187 ((z176).map (D.int .i64)), .grow v153 ((z145).map (D.int .i64)), .grow v128 ((x127).map (D.int .i64))] := H192
                            have H193 : Has pureSt S191 [.grow v187 ((z176).map (D.int .i64)), .grow v153 ((z145).map (D.int .i64)), .grow v128 ((x127).map (D.int .i64)), .box b11 [v60, w160], nestA encdom_node dom_node.kids 7 5 v60 ws159 z158.2.l none, slkA w160 z158.2.freed] := H192.sel [3, 4, 5, 0, 1, 2] (by decide) rfl
                            refine wpO.val rfl (oper_move rfl) rfl ?_
                            obtain ⟨z194, hzz194, h⟩ := bind_some h
                            refine wpO.ret rfl (oper_callF rfl rfl) (porticobook_Same_int_ok E _ _ _ _ hzz194 _ _ (ArgsC.eq (ArgsC.grow H193 (i := 0) rfl .nil))) rfl ?_
                            refine wpO.val rfl (oper_not rfl) rfl ?_
                            refine wpO.val rfl (oper_move rfl) rfl ?_
                            rcases Bool.eq_false_or_eq_true ((!z194)) with hB195 | hB195
                            ·
                              replace h := if_t hB195 h
                              refine wpO.bool hB195 ?_
                              refine wpO.no rfl rfl ?_
                              refine wpO.no rfl rfl ?_
                              refine wpO.no rfl rfl ?_
                              refine wpO.no rfl rfl ?_
                              refine wpO.no rfl rfl ?_
                              refine wpO.val rfl (oper_pick (b := true) rfl rfl) rfl ?_
                              refine wpO.nil ?_
                              refine WpC.cond rfl (fun hb => ?_) (fun hb => ?_)
                              ·
                                refine WpC.seq ?_
                                refine WpC.region E.obj rfl ?_
                                refine wpO.val rfl (oper_assign rfl) rfl ?_
                                refine wpO.nil ?_
                                have hr := Option.some.inj h
                                subst hr
                                exact WpC.ret ⟨_, rfl, rfl, end1 (ArgsC.eq .nil)⟩
                              ·
                                cases hb
                            ·
                              replace h := if_f hB195 h
                              refine wpO.bool hB195 ?_
                              refine wpO.val rfl (oper_move rfl) rfl ?_
                              refine wpO.val rfl (oper_move rfl) rfl ?_
                              obtain ⟨z196, hzz196, h⟩ := bind_some h
                              refine wpO.retM (ins := [.box b11 [v60, w160], nestA encdom_node dom_node.kids 7 5 v60 ws159 z158.2.l none, slkA w160 z158.2.freed]) (more := [.grow v187 ((z176).map (D.int .i64)), .grow v153 ((z145).map (D.int .i64)), .grow v128 ((x127).map (D.int .i64))]) (H193.sel [3, 4, 5, 0, 1, 2] (by decide) rfl) rfl (oper_callF rfl rfl) (dom_Dom_Parent_ok E n _ _ _ hzz196 b11 v60 ws159 w160) (.cons (.refl _) (.cons (.refl _) .nil)) rfl ?_
                              rintro _ S197 _ ⟨rfl, rfl⟩ H198
                              replace H198 : Has pureSt S197 [.box b11 [v60, w160], nestA encdom_node dom_node.kids 7 5 v60 ws159 z158.2.l none, slkA w160 z158.2.freed, .grow v187 ((z176).map (D.int .i64)), .grow v153 ((z145).map (D.int .i64)), .grow v128 ((x127).map (D.int .i64))] := H198
                              have H199 : Has pureSt S197 [.grow v187 ((z176).map (D.int .i64)), .grow v153 ((z145).map (D.int .i64)), .grow v128 ((x127).map (D.int .i64)), .box b11 [v60, w160], nestA encdom_node dom_node.kids 7 5 v60 ws159 z158.2.l none, slkA w160 z158.2.freed] := H198.sel [3, 4, 5, 0, 1, 2] (by decide) rfl
                              refine wpO.val rfl (oper_move rfl) rfl ?_
                              refine wpO.val rfl (oper_bin rfl rfl binD_neq) rfl ?_
                              refine wpO.val rfl (oper_pick (b := false) rfl rfl) rfl ?_
                              refine wpO.nil ?_
                              refine WpC.cond rfl (fun hb200 => ?_) (fun hb200 => ?_)
                              ·
                                replace h := if_t hb200 h
                                refine WpC.seq ?_
                                refine WpC.region E.obj rfl ?_
                                refine wpO.val rfl (oper_assign rfl) rfl ?_
                                refine wpO.nil ?_
                                have hr := Option.some.inj h
                                subst hr
                                exact WpC.ret ⟨_, rfl, rfl, end1 (ArgsC.eq .nil)⟩
                              ·
                                replace h := if_f hb200 h
                                refine WpC.skip ?_
                                refine WpC.region E.obj rfl ?_
                                refine wpO.val rfl (oper_move rfl) rfl ?_
                                refine wpO.val rfl (oper_bin rfl rfl binD_add) rfl ?_
                                refine wpO.val rfl (oper_assign rfl) rfl ?_
                                refine wpO.nil ?_
                                exact ⟨⟨z158.2, ws159, w160, z176, v187, (IntKind.wrap .i64 (x129 + 1))⟩, _, _, S197, .refl _ _, .refl _, (WeakE.cons rfl (.refl _) (WeakE.cons rfl (.refl _) (WeakE.cons rfl (.refl _) (WeakE.cons rfl (.refl _) (WeakE.cons rfl (.refl _) (WeakE.cons rfl (.refl _) (WeakE.cons rfl (.refl _) (WeakE.cons rfl (.refl _) WeakE.nil)))))))), H199.sel [0, 3, 4, 5] (by decide) rfl, h⟩
                        ·
                          replace h := if_f hb134 h
                          refine WpC.exit ?_
                          refine WpC.seq ?_
                          refine WpC.seq ?_
                          refine WpC.region E.obj rfl ?_
                          refine wpO.val rfl (oper_move rfl) rfl ?_
                          refine wpO.val rfl (oper_lenG H123 (i := 0) rfl rfl es31) rfl ?_
                          refine wpO.val rfl (oper_move rfl) rfl ?_
                          refine wpO.nil ?_
                          refine WpC.block ?_
                          refine WpL.start (B := pureSt) (α := dom_Dom × (List (List AV)) × AV × Int) (fun k a => porticolaw12_DomMoves_l215 n z16 z23 z108 x127 k a.1 a.2.2.2 = some r) (fun a => [(7, (.ptr b11 0 0)), (8, (.d (.int .i64 z16.1))), (9, (.d (.int .i64 z23.1))), (10, v128), (14, (.d (.int .i64 z108))), (164, v128), (165, (.d (.int .i64 ((x127).length : Int)))), (166, (.d (.int .i64 a.2.2.2)))]) (fun a => [.grow v128 ((x127).map (D.int .i64)), .box b11 [v60, a.2.2.1], nestA encdom_node dom_node.kids 7 5 v60 a.2.1 a.1.l none, slkA a.2.2.1 a.1.freed]) ?_ ?_ n ⟨⟨x124, ws125, w126, 0⟩, _, _, S122, .refl _ _, .refl _, (WeakE.cons rfl (.refl _) (WeakE.cons rfl (.refl _) (WeakE.cons rfl (.refl _) (WeakE.cons rfl (.refl _) (WeakE.cons rfl (.refl _) (WeakE.cons rfl (.refl _) (WeakE.cons rfl (.refl _) (WeakE.cons rfl (.refl _) WeakE.nil)))))))), H123.sel [0, 1, 2, 3] (by decide) rfl, h⟩
                          · intro a h; simp [porticolaw12_DomMoves_l215] at h
                          ·
                            intro k215 a S209 H210 h
                            obtain ⟨x211, ws212, w213, x214⟩ := a
                            replace h : porticolaw12_DomMoves_l215 n z16 z23 z108 x127 (k215 + 1) x211 x214 = some r := h
                            replace H210 : Has pureSt S209 [.grow v128 ((x127).map (D.int .i64)), .box b11 [v60, w213], nestA encdom_node dom_node.kids 7 5 v60 ws212 x211.l none, slkA w213 x211.freed] := H210
                            unfold porticolaw12_DomMoves_l215 at h
                            refine WpC.seq ?_
                            refine WpC.region E.obj rfl ?_
                            refine wpO.val rfl (oper_bin rfl rfl binD_lss) rfl ?_
                            refine wpO.nil ?_
                            refine WpC.seq ?_
                            refine WpC.cond rfl (fun hb216 => ?_) (fun hb216 => ?_)
                            ·
                              replace h := if_t hb216 h
                              refine WpC.skip ?_
                              refine WpC.seq ?_
                              refine WpC.block ?_
                              refine WpC.seq ?_
                              refine WpC.region E.obj rfl ?_
                              refine wpO.val rfl (oper_move rfl) rfl ?_
                              obtain ⟨z217, hzz217, h⟩ := bind_some h
                              refine wpO.val rfl (oper_idx rfl rfl (idxAddr_grow (enc := (D.int .i64)) H210 (i := 0) rfl hzz217 el31 as3 (((fun _ => rfl) _).trans sz3.symm))) rfl ?_
                              refine wpO.val rfl (oper_loadE rfl (partD_one ag3 rfl)) rfl ?_
                              refine wpO.val rfl (oper_assign rfl) rfl ?_
                              refine wpO.val rfl (oper_assign rfl) rfl ?_
                              refine wpO.nil ?_
                              refine WpC.seq ?_
                              refine WpC.region E.obj rfl ?_
                              refine wpO.val rfl (oper_move rfl) rfl ?_
                              refine wpO.val rfl (oper_move rfl) rfl ?_
                              refine wpO.val rfl (oper_move rfl) rfl ?_
                              obtain ⟨z218, hzz218, h⟩ := bind_some h
                              refine wpO.retM (ins := [.box b11 [v60, w213], nestA encdom_node dom_node.kids 7 5 v60 ws212 x211.l none, slkA w213 x211.freed]) (more := [.grow v128 ((x127).map (D.int .i64))]) (H210.sel [1, 2, 3, 0] (by decide) rfl) rfl (oper_callF rfl rfl) (dom_Dom_Insert_ok E n _ _ _ _ _ hzz218 b11 v60 ws212 w213) (.cons (.refl _) (.cons (.refl _) (.cons (.refl _) (.cons (.refl _) .nil)))) rfl ?_
                              rintro _ S221 _ ⟨rfl, ws219, w220, rfl⟩ H222
                              replace H222 : Has pureSt S221 [.box b11 [v60, w220], nestA encdom_node dom_node.kids 7 5 v60 ws219 z218.2.l none, slkA w220 z218.2.freed, .grow v128 ((x127).map (D.int .i64))] := H222
                              have H223 : Has pureSt S221 [.grow v128 ((x127).map (D.int .i64)), .box b11 [v60, w220], nestA encdom_node dom_node.kids 7 5 v60 ws219 z218.2.l none, slkA w220 z218.2.freed] := H222.sel [3, 0, 1, 2] (by decide) rfl
                              refine wpO.val rfl (oper_not rfl) rfl ?_
                              refine wpO.val rfl (oper_move rfl) rfl ?_
                              rcases Bool.eq_false_or_eq_true ((!z218.1)) with hB224 | hB224
                              ·
                                replace h := if_t hB224 h
                                refine wpO.bool hB224 ?_
                                refine wpO.no rfl rfl ?_
                                refine wpO.no rfl rfl ?_
                                refine wpO.no rfl rfl ?_
                                refine wpO.no rfl rfl ?_
                                refine wpO.no rfl rfl ?_
                                refine wpO.no rfl rfl ?_
                                refine wpO.no rfl rfl ?_
                                refine wpO.no rfl rfl ?_
                                refine wpO.no rfl rfl ?_
                                refine wpO.no rfl rfl ?_
                                refine wpO.val rfl (oper_pick (b := true) rfl rfl) rfl ?_
                                refine wpO.val rfl (oper_move rfl) rfl ?_
                                refine wpO.no rfl rfl ?_
                                refine wpO.no rfl rfl ?_
                                refine wpO.no rfl rfl ?_
                                refine wpO.no rfl rfl ?_
                                refine wpO.no rfl rfl ?_
                                refine wpO.no rfl rfl ?_
                                refine wpO.no rfl rfl ?_
                                refine wpO.val rfl (oper_pick (b := true) rfl rfl) rfl ?_
                                refine wpO.nil ?_
                                refine WpC.cond rfl (fun hb => ?_) (fun hb => ?_)
                                ·
                                  refine WpC.seq ?_
                                  refine WpC.region E.obj rfl ?_
                                  refine wpO.val rfl (oper_assign rfl) rfl ?_
                                  refine wpO.nil ?_
                                  have hr := Option.some.inj h
                                  subst hr
                                  exact WpC.ret ⟨_, rfl, rfl, end1 (ArgsC.eq .nil)⟩
                                ·
                                  cases hb
                              ·
                                replace h := if_f hB224 h
                                refine wpO.bool hB224 ?_
                                refine wpO.val rfl (oper_move rfl) rfl ?_
                                refine wpO.val rfl (oper_move rfl) rfl ?_
                                obtain ⟨z225, hzz225, h⟩ := bind_some h
                                refine wpO.retM (ins := [.box b11 [v60, w220], nestA encdom_node dom_node.kids 7 5 v60 ws219 z218.2.l none, slkA w220 z218.2.freed]) (more := [.grow v128 ((x127).map (D.int .i64))]) (H223.sel [1, 2, 3, 0] (by decide) rfl) rfl (oper_callF rfl rfl) (dom_Dom_Kids_ok E n _ _ _ hzz225 b11 v60 ws219 w220) (.cons (.refl _) (.cons (.refl _) .nil)) rfl ?_
                                rintro _ S226 _ ⟨rfl, rfl⟩ H227
                                replace H227 : Has pureSt S226 [.box b11 [v60, w220], nestA encdom_node dom_node.kids 7 5 v60 ws219 z218.2.l none, slkA w220 z218.2.freed, .grow v128 ((x127).map (D.int .i64))] := H227
                                have H228 : Has pureSt S226 [.grow v128 ((x127).map (D.int .i64)), .box b11 [v60, w220], nestA encdom_node dom_node.kids 7 5 v60 ws219 z218.2.l none, slkA w220 z218.2.freed] := H227.sel [3, 0, 1, 2] (by decide) rfl
                                refine wpO.val rfl (oper_lenL rfl es31) rfl ?_
                                refine wpO.val rfl (oper_move rfl) rfl ?_
                                refine wpO.val rfl (oper_lenG H228 (i := 0) rfl rfl es31) rfl ?_
                                refine wpO.val rfl (oper_bin rfl rfl binD_sub) rfl ?_
                                refine wpO.val rfl (oper_move rfl) rfl ?_
                                refine wpO.val rfl (oper_bin rfl rfl binD_sub) rfl ?_
                                refine wpO.val rfl (oper_bin rfl rfl binD_neq) rfl ?_
                                refine wpO.val rfl (oper_pick (b := false) rfl rfl) rfl ?_
                                refine wpO.val rfl (oper_move rfl) rfl ?_
                                rcases Bool.eq_false_or_eq_true ((((z225).length : Int) != (IntKind.wrap .i64 ((IntKind.wrap .i64 (((x127).length : Int) - 1)) - x214)))) with hB229 | hB229
                                ·
                                  replace h := if_t hB229 h
                                  refine wpO.bool hB229 ?_
                                  refine wpO.no rfl rfl ?_
                                  refine wpO.no rfl rfl ?_
                                  refine wpO.no rfl rfl ?_
                                  refine wpO.no rfl rfl ?_
                                  refine wpO.no rfl rfl ?_
                                  refine wpO.no rfl rfl ?_
                                  refine wpO.no rfl rfl ?_
                                  refine wpO.val rfl (oper_pick (b := true) rfl rfl) rfl ?_
                                  refine wpO.nil ?_
                                  refine WpC.cond rfl (fun hb => ?_) (fun hb => ?_)
                                  ·
                                    refine WpC.seq ?_
                                    refine WpC.region E.obj rfl ?_
                                    refine wpO.val rfl (oper_assign rfl) rfl ?_
                                    refine wpO.nil ?_
                                    have hr := Option.some.inj h
                                    subst hr
                                    exact WpC.ret ⟨_, rfl, rfl, end1 (ArgsC.eq .nil)⟩
                                  ·
                                    cases hb
                                ·
                                  replace h := if_f hB229 h
                                  refine wpO.bool hB229 ?_
                                  refine wpO.val rfl (oper_move rfl) rfl ?_
                                  refine wpO.val rfl (oper_move rfl) rfl ?_
                                  obtain ⟨z230, hzz230, h⟩ := bind_some h
                                  refine wpO.retM (ins := [.box b11 [v60, w220], nestA encdom_node dom_node.kids 7 5 v60 ws219 z218.2.l none, slkA w220 z218.2.freed]) (more := [.grow v128 ((x127).map (D.int .i64))]) (H228.sel [1, 2, 3, 0] (by decide) rfl) rfl (oper_callF rfl rfl) (dom_Dom_Kids_ok E n _ _ _ hzz230 b11 v60 ws219 w220) (.cons (.refl _) (.cons (.refl _) .nil)) rfl ?_
                                  rintro _ S231 _ ⟨rfl, rfl⟩ H232
                                  replace H232 : Has pureSt S231 [.box b11 [v60, w220], nestA encdom_node dom_node.kids 7 5 v60 ws219 z218.2.l none, slkA w220 z218.2.freed, .grow v128 ((x127).map (D.int .i64))] := H232
                                  have H233 : Has pureSt S231 [.grow v128 ((x127).map (D.int .i64)), .box b11 [v60, w220], nestA encdom_node dom_node.kids 7 5 v60 ws219 z218.2.l none, slkA w220 z218.2.freed] := H232.sel [3, 0, 1, 2] (by decide) rfl
                                  refine wpO.val rfl (oper_lenL rfl es31) rfl ?_
                                  refine wpO.val rfl (oper_move rfl) rfl ?_
                                  refine wpO.val rfl (oper_bin rfl rfl binD_add) rfl ?_
                                  refine wpO.val rfl (oper_bin rfl rfl binD_neq) rfl ?_
                                  refine wpO.val rfl (oper_pick (b := false) rfl rfl) rfl ?_
                                  refine wpO.nil ?_
                                  refine WpC.cond rfl (fun hb234 => ?_) (fun hb234 => ?_)
                                  ·
                                    replace h := if_t hb234 h
                                    refine WpC.seq ?_
                                    refine WpC.region E.obj rfl ?_
                                    refine wpO.val rfl (oper_assign rfl) rfl ?_
                                    refine wpO.nil ?_
                                    have hr := Option.some.inj h
                                    subst hr
                                    exact WpC.ret ⟨_, rfl, rfl, end1 (ArgsC.eq .nil)⟩
                                  ·
                                    replace h := if_f hb234 h
                                    refine WpC.skip ?_
                                    refine WpC.region E.obj rfl ?_
                                    refine wpO.val rfl (oper_bin rfl rfl binD_add) rfl ?_
                                    refine wpO.val rfl (oper_move rfl) rfl ?_
                                    refine wpO.nil ?_
                                    exact ⟨⟨z218.2, ws219, w220, (IntKind.wrap .i64 (x214 + 1))⟩, _, _, S231, .refl _ _, .refl _, (WeakE.cons rfl (.refl _) (WeakE.cons rfl (.refl _) (WeakE.cons rfl (.refl _) (WeakE.cons rfl (.refl _) (WeakE.cons rfl (.refl _) (WeakE.cons rfl (.refl _) (WeakE.cons rfl (.refl _) (WeakE.cons rfl (.refl _) WeakE.nil)))))))), H233.sel [0, 1, 2, 3] (by decide) rfl, h⟩
                            ·
                              replace h := if_f hb216 h
                              refine WpC.exit ?_
                              refine WpC.seq ?_
                              refine WpC.region E.obj rfl ?_
                              refine wpO.val rfl (oper_move rfl) rfl ?_
                              obtain ⟨z235, hzz235, h⟩ := bind_some h
                              refine wpO.retM (ins := [.box b11 [v60, w213], nestA encdom_node dom_node.kids 7 5 v60 ws212 x211.l none, slkA w213 x211.freed]) (more := [.grow v128 ((x127).map (D.int .i64))]) (H210.sel [1, 2, 3, 0] (by decide) rfl) rfl (oper_callF rfl rfl) (dom_Dom_Count_ok E n _ _ hzz235 b11 v60 ws212 w213) (.cons (.refl _) .nil) rfl ?_
                              rintro _ S236 _ ⟨rfl, rfl⟩ H237
                              replace H237 : Has pureSt S236 [.box b11 [v60, w213], nestA encdom_node dom_node.kids 7 5 v60 ws212 x211.l none, slkA w213 x211.freed, .grow v128 ((x127).map (D.int .i64))] := H237
                              have H238 : Has pureSt S236 [.grow v128 ((x127).map (D.int .i64)), .box b11 [v60, w213], nestA encdom_node dom_node.kids 7 5 v60 ws212 x211.l none, slkA w213 x211.freed] := H237.sel [3, 0, 1, 2] (by decide) rfl
                              refine wpO.val rfl (oper_move rfl) rfl ?_
                              refine wpO.val rfl (oper_bin rfl rfl binD_eql) rfl ?_
                              refine wpO.val rfl (oper_move rfl) rfl ?_
                              rcases Bool.eq_false_or_eq_true ((z235 == z108)) with hB239 | hB239
                              ·
                                replace h := if_t hB239 h
                                refine wpO.bool hB239 ?_
                                refine wpO.val rfl (oper_move rfl) rfl ?_
                                obtain ⟨z240, hzz240, h⟩ := bind_some h
                                refine wpO.retM (ins := [.box b11 [v60, w213], nestA encdom_node dom_node.kids 7 5 v60 ws212 x211.l none, slkA w213 x211.freed]) (more := [.grow v128 ((x127).map (D.int .i64))]) (H238.sel [1, 2, 3, 0] (by decide) rfl) rfl (oper_callF rfl rfl) (dom_Dom_Kids_ok E n _ _ _ hzz240 b11 v60 ws212 w213) (.cons (.refl _) (.cons (.refl _) .nil)) rfl ?_
                                rintro _ S241 _ ⟨rfl, rfl⟩ H242
                                replace H242 : Has pureSt S241 [.box b11 [v60, w213], nestA encdom_node dom_node.kids 7 5 v60 ws212 x211.l none, slkA w213 x211.freed, .grow v128 ((x127).map (D.int .i64))] := H242
                                have H243 : Has pureSt S241 [.grow v128 ((x127).map (D.int .i64)), .box b11 [v60, w213], nestA encdom_node dom_node.kids 7 5 v60 ws212 x211.l none, slkA w213 x211.freed] := H242.sel [3, 0, 1, 2] (by decide) rfl
                                refine wpO.val rfl (oper_move rfl) rfl ?_
                                refine wpO.val rfl (oper_move rfl) rfl ?_
                                refine wpO.val rfl (oper_buildSlice (vs := [(.d (.int .i64 z16.1)), (.d (.int .i64 z23.1))]) (ds := [(.int .i64 z16.1), (.int .i64 z23.1)]) rw31 el31 ag3 zo3 sz3 rfl (by decide) (.cons rfl rfl (.cons rfl rfl .nil)) rfl (by intro d hd; simp only [List.mem_cons, List.not_mem_nil, or_false] at hd; rcases hd with rfl | rfl <;> rfl) rfl) rfl ?_
                                obtain ⟨z244, hzz244, h⟩ := bind_some h
                                refine wpO.ret rfl (oper_callF rfl rfl) (porticobook_Same_int_ok E _ _ _ _ hzz244 _ _ (ArgsC.eq (ArgsC.consW rfl (.untight _ _) .nil))) rfl ?_
                                refine wpO.val rfl (oper_pick (b := true) rfl rfl) rfl ?_
                                refine wpO.val rfl (oper_move rfl) rfl ?_
                                rcases Bool.eq_false_or_eq_true (z244) with hB245 | hB245
                                ·
                                  replace h := if_t hB245 h
                                  refine wpO.bool hB245 ?_
                                  refine wpO.val rfl (oper_move rfl) rfl ?_
                                  obtain ⟨z246, hzz246, h⟩ := bind_some h
                                  refine wpO.retM (ins := [.box b11 [v60, w213], nestA encdom_node dom_node.kids 7 5 v60 ws212 x211.l none, slkA w213 x211.freed]) (more := [.grow v128 ((x127).map (D.int .i64))]) (H243.sel [1, 2, 3, 0] (by decide) rfl) rfl (oper_callF rfl rfl) (dom_Dom_Loose_ok E n _ _ hzz246 b11 v60 ws212 w213) (.cons (.refl _) .nil) rfl ?_
                                  rintro _ S247 _ ⟨rfl, rfl⟩ H248
                                  replace H248 : Has pureSt S247 [.box b11 [v60, w213], nestA encdom_node dom_node.kids 7 5 v60 ws212 x211.l none, slkA w213 x211.freed, .grow v128 ((x127).map (D.int .i64))] := H248
                                  have H249 : Has pureSt S247 [.grow v128 ((x127).map (D.int .i64)), .box b11 [v60, w213], nestA encdom_node dom_node.kids 7 5 v60 ws212 x211.l none, slkA w213 x211.freed] := H248.sel [3, 0, 1, 2] (by decide) rfl
                                  refine wpO.val rfl (oper_lenL rfl es31) rfl ?_
                                  refine wpO.val rfl (oper_bin rfl rfl binD_eql) rfl ?_
                                  refine wpO.val rfl (oper_pick (b := true) rfl rfl) rfl ?_
                                  refine wpO.val rfl (oper_move rfl) rfl ?_
                                  obtain ⟨z251, hzz251, h⟩ := bind_some h
                                  refine wpO.groupV 2 218 (.d (.bool z251)) ?_ ?_
                                  ·
                                    rcases Bool.eq_false_or_eq_true ((((z246).length : Int) == 0)) with hB250 | hB250
                                    ·
                                      refine wpO.bool hB250 ?_
                                      replace hzz251 := if_t hB250 hzz251
                                      obtain ⟨z252, hzz252, hzz251⟩ := bind_some hzz251
                                      refine wpO.ret rfl (oper_callF rfl rfl) (E.porticolaw12_DomRuns_ok _  _ hzz252 _ _ .nil) rfl ?_
                                      refine wpO.val rfl (oper_pick (b := true) rfl rfl) rfl ?_
                                      cases hzz251
                                      exact wpO.nil ⟨_, rfl, (WeakE.put (WeakE.push rfl (WeakE.put (.refl _) (Less.eq (by rw [hB250])))) (.refl _))⟩
                                    ·
                                      refine wpO.bool hB250 ?_
                                      refine wpO.no rfl rfl ?_
                                      refine wpO.val rfl (oper_pick (b := false) rfl rfl) rfl ?_
                                      replace hzz251 := if_f hB250 hzz251
                                      cases hzz251
                                      exact wpO.nil ⟨_, rfl, (WeakE.put (WeakE.push rfl (WeakE.put (.refl _) (Less.eq (by rw [hB250])))) (.refl _))⟩
                                  ·
                                    refine wpO.val rfl (oper_assign rfl) rfl ?_
                                    refine wpO.nil ?_
                                    have hr := Option.some.inj h
                                    subst hr
                                    exact WpC.ret ⟨_, rfl, rfl, end1 (ArgsC.eq .nil)⟩
                                ·
                                  replace h := if_f hB245 h
                                  refine wpO.bool hB245 ?_
                                  refine wpO.no rfl rfl ?_
                                  refine wpO.no rfl rfl ?_
                                  refine wpO.no rfl rfl ?_
                                  refine wpO.no rfl rfl ?_
                                  refine wpO.val rfl (oper_pick (b := false) rfl rfl) rfl ?_
                                  refine wpO.val rfl (oper_move rfl) rfl ?_
                                  refine wpO.no rfl rfl ?_
                                  refine wpO.val rfl (oper_pick (b := false) rfl rfl) rfl ?_
                                  refine wpO.val rfl (oper_assign rfl) rfl ?_
                                  refine wpO.nil ?_
                                  have hr := Option.some.inj h
                                  subst hr
                                  exact WpC.ret ⟨_, rfl, rfl, end1 (ArgsC.eq .nil)⟩
                              ·
                                replace h := if_f hB239 h
                                refine wpO.bool hB239 ?_
                                refine wpO.no rfl rfl ?_
                                refine wpO.no rfl rfl ?_
                                refine wpO.no rfl rfl ?_
                                refine wpO.no rfl rfl ?_
                                refine wpO.no rfl rfl ?_
                                refine wpO.no rfl rfl ?_
                                refine wpO.val rfl (oper_pick (b := false) rfl rfl) rfl ?_
                                refine wpO.val rfl (oper_move rfl) rfl ?_
                                refine wpO.no rfl rfl ?_
                                refine wpO.no rfl rfl ?_
                                refine wpO.no rfl rfl ?_
                                refine wpO.no rfl rfl ?_
                                refine wpO.val rfl (oper_pick (b := false) rfl rfl) rfl ?_
                                refine wpO.val rfl (oper_move rfl) rfl ?_
                                refine wpO.no rfl rfl ?_
                                refine wpO.val rfl (oper_pick (b := false) rfl rfl) rfl ?_
                                refine wpO.val rfl (oper_assign rfl) rfl ?_
                                refine wpO.nil ?_
                                have hr := Option.some.inj h
                                subst hr
                                exact WpC.ret ⟨_, rfl, rfl, end1 (ArgsC.eq .nil)⟩
end
end Pr
end Go.Ev


namespace Go.Ev
namespace Pr
set_option linter.unusedVariables false
set_option linter.unusedSimpArgs false

/-! ### Laws of what the functions are made of -/
theorem w64 {n : Int} (h0 : -9223372036854775808 ≤ n) (h1 : n ≤ 9223372036854775807) : IntKind.wrap .i64 n = n := Go.IntWalk.i64_in n ⟨h0, h1⟩
theorem idx_nat {α : Type} (l : List α) (i : Nat) : idx l (i : Int) = l[i]? := by
  unfold idx
  rw [if_pos (by omega)]
  simp
theorem idx_mid {α : Type} {l done rest : List α} {z : α} (h : l = done ++ z :: rest) : idx l (done.length : Int) = some z := by
  rw [idx_nat, h]; simp
theorem idx_in {α : Type} (l : List α) {i : Int} (h0 : 0 ≤ i) (h1 : i < l.length) : ∃ x, idx l i = some x ∧ x ∈ l ∧ l[i.toNat]? = some x := by
  obtain ⟨j, rfl⟩ := Int.eq_ofNat_of_zero_le h0
  have hj : j < l.length := by omega
  exact ⟨l[j], by rw [idx_nat]; exact List.getElem?_eq_getElem hj, List.getElem_mem hj, by simp [hj]⟩
theorem app_ok {α : Type} {nb : Nat} {l ys : List α} (h : (l.length + ys.length) * nb ≤ bound) : app nb l ys = some (l ++ ys) := by
  unfold app; rw [if_pos h]
theorem remI_ok {k : IntKind} {a b : Int} (h : b ≠ 0) : remI k a b = some (a.tmod b) := by
  unfold remI; rw [if_neg h]
theorem bnd : bound = 70368744177664 := rfl
end Pr
end Go.Ev


namespace Go.Ev
namespace Pr
set_option linter.unusedVariables false
set_option linter.unusedSimpArgs false

/-! ### The dom's nodes by their numbers -/
def nd (d : dom_Dom) (i : Int) : Option dom_node := if 1 ≤ i then d.l[(i - 1).toNat]? else none
theorem nd_range {d : dom_Dom} {i : Int} {z : dom_node} (h : nd d i = some z) : 1 ≤ i ∧ i ≤ d.l.length := by
  unfold nd at h
  split at h
  · have := (List.getElem?_eq_some_iff.1 h).1
    omega
  · cases h
theorem nd_some {d : dom_Dom} {i : Int} (h1 : 1 ≤ i) (h2 : i ≤ d.l.length) : ∃ z, nd d i = some z := by
  unfold nd; rw [if_pos h1]
  exact ⟨_, List.getElem?_eq_getElem (by omega)⟩
/-- No dom is so great. -/
def dM : Nat := 100000
theorem idx_nd {d : dom_Dom} (hl : d.l.length ≤ dM) {i : Int} {z : dom_node} (h : nd d i = some z) : idx d.l (IntKind.wrap .i64 (i - 1)) = some z := by
  have hr := nd_range h
  unfold dM at hl
  rw [w64 (by omega) (by omega)]
  unfold nd at h; rw [if_pos hr.1] at h
  unfold idx; rw [if_pos (by omega)]; exact h
/-- A node is other than it was. -/
def dset (d : dom_Dom) (i : Int) (z : dom_node) : dom_Dom := { d with l := d.l.set (i - 1).toNat z }
theorem setI_nd {d : dom_Dom} (hl : d.l.length ≤ dM) {i : Int} {z0 : dom_node} (h : nd d i = some z0) (z : dom_node) : setI d.l (IntKind.wrap .i64 (i - 1)) z = (dset d i z).l := by
  have hr := nd_range h
  unfold dM at hl
  rw [w64 (by omega) (by omega)]; rfl
theorem nd_dset {d : dom_Dom} {i : Int} {z0 : dom_node} (h : nd d i = some z0) (z : dom_node) (j : Int) : nd (dset d i z) j = if j = i then some z else nd d j := by
  have hr := nd_range h
  unfold nd dset
  by_cases hj : 1 ≤ j
  · rw [if_pos hj, if_pos hj]
    by_cases hij : j = i
    · subst hij; rw [if_pos rfl, List.getElem?_set_self (by omega)]
    · rw [if_neg hij, List.getElem?_set_ne (by omega)]
  · rw [if_neg hj, if_neg hj, if_neg (by omega)]
@[simp] theorem dset_len (d : dom_Dom) (i : Int) (z : dom_node) : (dset d i z).l.length = d.l.length := by simp [dset]
@[simp] theorem dset_freed (d : dom_Dom) (i : Int) (z : dom_node) : (dset d i z).freed = d.freed := rfl

/-- Does a node live? -/
def lvb (d : dom_Dom) (i : Int) : Bool := match nd d i with | some z => z.lives | none => false
theorem lvb_some {d : dom_Dom} {i : Int} (h : lvb d i = true) : ∃ z, nd d i = some z ∧ z.lives = true := by
  unfold lvb at h
  split at h
  · exact ⟨_, ‹_›, h⟩
  · cases h
theorem at_ok {d : dom_Dom} (hl : d.l.length ≤ dM) (n : Nat) (i : Int) : dom_Dom_at n d i = some (lvb d i) := by
  unfold dom_Dom_at
  by_cases h : i < 1 ∨ (d.l.length : Int) < i
  · rw [if_pos (by simpa using h), Option.bind_some, if_pos rfl]
    have : nd d i = none := by
      cases hn : nd d i with
      | none => rfl
      | some z => have := nd_range hn; omega
    unfold lvb; rw [this]
  · obtain ⟨z, hz⟩ := nd_some (d := d) (i := i) (by omega) (by omega)
    rw [if_neg (by simpa using h), idx_nd hl hz]
    simp only [Option.bind_some]
    unfold lvb; rw [hz]
    cases hlv : z.lives <;> simp [hlv]

/-! ### What is so of each dom -/
/-- The way up. -/
inductive Path (d : dom_Dom) : Int → List Int → Prop
  | top {i : Int} {z : dom_node} (h : nd d i = some z) (hl : z.lives = true) (hp : z.parent = 0) : Path d i [i]
  | up {i : Int} {z : dom_node} {l : List Int} (h : nd d i = some z) (hl : z.lives = true) (hp : z.parent ≠ 0) (k : Path d z.parent l) : Path d i (i :: l)
structure WF (d : dom_Dom) : Prop where
  len : d.l.length ≤ 5000
  root : ∃ z, nd d 1 = some z ∧ z.lives = true ∧ z.parent = 0 ∧ z.tag ≠ []
  freedR : ∀ i ∈ d.freed, 1 < i ∧ i ≤ d.l.length
  freedN : d.freed.Nodup
  dead : ∀ i z, nd d i = some z → (z.lives = false ↔ i ∈ d.freed)
  kidN : ∀ i z, nd d i = some z → z.lives = true → z.kids.Nodup
  kid : ∀ i z k, nd d i = some z → z.lives = true → k ∈ z.kids → ∃ y, nd d k = some y ∧ y.lives = true ∧ y.parent = i
  par : ∀ k y, nd d k = some y → y.lives = true → y.parent ≠ 0 → ∃ z, nd d y.parent = some z ∧ z.lives = true ∧ k ∈ z.kids ∧ z.tag ≠ []
  path : ∀ i, lvb d i = true → ∃ l, Path d i l
  attrs : ∀ i z, nd d i = some z → z.attrs.length ≤ 100000
theorem WF.dm {d : dom_Dom} (h : WF d) : d.l.length ≤ dM := Nat.le_trans h.len (by decide)
theorem lvb_of {d : dom_Dom} {i : Int} {z : dom_node} (h : nd d i = some z) : lvb d i = z.lives := by unfold lvb; rw [h]
theorem Path.uniq {d : dom_Dom} {i : Int} {l l' : List Int} (h : Path d i l) (h' : Path d i l') : l = l' := by
  induction h generalizing l' with
  | top h hl hp =>
    cases h' with
    | top => rfl
    | up h2 _ hp2 _ => rw [h] at h2; cases h2; exact absurd hp hp2
  | up h hl hp k ih =>
    cases h' with
    | top h2 _ hp2 => rw [h] at h2; cases h2; exact absurd hp2 hp
    | up h2 _ _ k2 => rw [h] at h2; cases h2; rw [ih k2]
theorem Path.head {d : dom_Dom} {i : Int} {l : List Int} (h : Path d i l) : ∃ t, l = i :: t := by cases h <;> exact ⟨_, rfl⟩
theorem Path.mem {d : dom_Dom} {i : Int} {l : List Int} (h : Path d i l) : ∀ j ∈ l, ∃ l1 l2, l = l1 ++ l2 ∧ Path d j l2 ∧ ∃ z, nd d j = some z ∧ z.lives = true := by
  induction h with
  | top h hl hp =>
    intro j hj
    simp only [List.mem_singleton] at hj
    subst hj; exact ⟨[], _, rfl, .top h hl hp, _, h, hl⟩
  | up h hl hp k ih =>
    intro j hj
    rcases List.mem_cons.1 hj with rfl | hj
    · exact ⟨[], _, rfl, .up h hl hp k, _, h, hl⟩
    · obtain ⟨l1, l2, e, k2, r⟩ := ih j hj
      exact ⟨_ :: l1, l2, by rw [e]; rfl, k2, r⟩
theorem Path.nodup {d : dom_Dom} {i : Int} {l : List Int} (h : Path d i l) : l.Nodup := by
  induction h with
  | top => simp
  | up h hl hp k ih =>
    refine List.nodup_cons.2 ⟨fun hm => ?_, ih⟩
    obtain ⟨l1, l2, e, k2, _⟩ := k.mem _ hm
    have := k2.uniq (.up h hl hp k)
    have := congrArg List.length this
    rw [e] at this
    simp at this
    omega
theorem nodup_le : ∀ (n : Nat) (l : List Int), l.Nodup → (∀ x ∈ l, 1 ≤ x ∧ x ≤ (n : Int)) → l.length ≤ n
  | 0, l, hn, h => by
    cases l with
    | nil => simp
    | cons x l => have := h x List.mem_cons_self; omega
  | n + 1, l, hn, h => by
    by_cases hm : ((n + 1 : Nat) : Int) ∈ l
    · have := nodup_le n (l.erase ((n + 1 : Nat) : Int)) (hn.erase _) (fun x hx => by
        have h1 := (List.Nodup.mem_erase_iff hn).1 hx
        have h2 := h x h1.2
        have h3 := h1.1
        omega)
      rw [List.length_erase_of_mem hm] at this
      omega
    · have := nodup_le n l hn (fun x hx => by
        have h2 := h x hx
        have h3 : x ≠ ((n + 1 : Nat) : Int) := fun q => hm (q ▸ hx)
        omega)
      omega
theorem Path.length {d : dom_Dom} {i : Int} {l : List Int} (h : Path d i l) : l.length ≤ d.l.length := by
  refine nodup_le _ _ h.nodup (fun x hx => ?_)
  obtain ⟨_, _, _, _, z, hz, _⟩ := h.mem x hx
  exact nd_range hz

/-! ### Is a node another one, or below it? -/
theorem within_l {d : dom_Dom} (hm : d.l.length ≤ dM) {top : Int} (ht : top ≠ 0) : ∀ {i : Int} {l : List Int}, Path d i l → ∀ f, l.length < f → dom_Dom_within_l16 d top f i = some (decide (top ∈ l))
  | i, l, h, 0, hf => by omega
  | i, l, h, f + 1, hf => by
    have hi : i ≠ 0 := by
      cases h with
      | top h => have := nd_range h; omega
      | up h => have := nd_range h; omega
    rw [dom_Dom_within_l16]
    by_cases he : i = top
    · subst he
      rw [if_neg (by simp)]
      obtain ⟨t, rfl⟩ := h.head
      simp
    · rw [if_pos (by simp [he, hi])]
      cases h with
      | top h hl hp =>
        rw [idx_nd hm h, Option.bind_some, hp]
        cases f with
        | zero => simp at hf
        | succ f =>
          rw [dom_Dom_within_l16, if_neg (by simp)]
          simp [he, Ne.symm he, Ne.symm ht]
      | up h hl hp k =>
        rw [idx_nd hm h, Option.bind_some, within_l hm ht k f (by simp at hf; omega)]
        simp [Ne.symm he]
end Pr
end Go.Ev


namespace Go.Ev
namespace Pr
set_option linter.unusedVariables false
set_option linter.unusedSimpArgs false

theorem WF.lp {d : dom_Dom} (h : WF d) {i : Int} (hi : lvb d i = true) : ∃ z l, nd d i = some z ∧ z.lives = true ∧ Path d i l ∧ l.length ≤ 5000 := by
  obtain ⟨z, hz, hl⟩ := lvb_some hi
  obtain ⟨l, hp⟩ := h.path i hi
  exact ⟨z, l, hz, hl, hp, Nat.le_trans hp.length h.len⟩
/-- Is a node below another one (or this one)? -/
def under (d : dom_Dom) (top i : Int) : Prop := ∃ l, Path d i l ∧ top ∈ l
theorem within_ok' {d : dom_Dom} (h : WF d) {i : Int} {l : List Int} (hp : Path d i l) {top : Int} (ht : top ≠ 0) {n : Nat} (hn : 5000 < n) : dom_Dom_within n d i top = some (decide (top ∈ l)) := by
  unfold dom_Dom_within
  exact within_l h.dm ht hp n (by have := hp.length; have := h.len; omega)

/-! ### New nodes -/
theorem nd_app (d : dom_Dom) (z : dom_node) (i : Int) : nd { d with l := d.l ++ [z] } i = if i = (d.l.length : Int) + 1 then some z else nd d i := by
  unfold nd
  by_cases h1 : 1 ≤ i
  · rw [if_pos h1, if_pos h1]
    by_cases h2 : i = (d.l.length : Int) + 1
    · subst h2
      rw [if_pos rfl, List.getElem?_append_right (by omega)]
      have : ((d.l.length : Int) + 1 - 1).toNat - d.l.length = 0 := by omega
      rw [this]; rfl
    · rw [if_neg h2]
      by_cases h3 : (i - 1).toNat < d.l.length
      · rw [List.getElem?_append_left h3]
      · rw [List.getElem?_eq_none (by simp; omega), List.getElem?_eq_none (by omega)]
  · rw [if_neg h1, if_neg h1, if_neg (by omega)]

/-- The ways up of nodes that are as they were. -/
theorem Path.keep {d d' : dom_Dom} {i : Int} {l : List Int} (h : Path d i l) (hk : ∀ j ∈ l, ∀ z, nd d j = some z → ∃ z', nd d' j = some z' ∧ z'.lives = z.lives ∧ z'.parent = z.parent) : Path d' i l := by
  induction h with
  | top h hl hp =>
    obtain ⟨z', h1, h2, h3⟩ := hk _ List.mem_cons_self _ h
    exact .top h1 (by rw [h2, hl]) (by rw [h3, hp])
  | up h hl hp k ih =>
    obtain ⟨z', h1, h2, h3⟩ := hk _ List.mem_cons_self _ h
    refine .up h1 (by rw [h2, hl]) (by rw [h3]; exact hp) ?_
    rw [h3]; exact ih (fun j hj => hk j (List.mem_cons_of_mem _ hj))

/-- A new node beside the others. -/
structure New (d d' : dom_Dom) (id : Int) (z : dom_node) : Prop where
  dead : lvb d id = false
  notroot : id ≠ 1
  pos : 1 ≤ id
  get : ∀ j, nd d' j = if j = id then some z else nd d j
  len : d'.l.length ≤ d.l.length + 1
  ge : d.l.length ≤ d'.l.length
theorem New.wf {d d' : dom_Dom} {id : Int} {z : dom_node} (h : WF d) (k : New d d' id z) (hz : z.lives = true) (hk : z.kids = []) (hp : z.parent = 0) (ha : z.attrs.length ≤ 100000) (hlen : d'.l.length ≤ 5000) (hf : ∀ i, i ∈ d'.freed ↔ (i ∈ d.freed ∧ i ≠ id)) (hfn : d'.freed.Nodup) : WF d' := by
  have old : ∀ i, lvb d i = true → i ≠ id := fun i hi q => by rw [q, k.dead] at hi; cases hi
  refine ⟨hlen, ?_, fun i hi => ?_, hfn, fun i y hy => ?_, fun i y hy hl => ?_, fun i y c hy hl hc => ?_, fun c y hy hl hyp => ?_, fun i hi => ?_, fun i y hy => ?_⟩
  · obtain ⟨r, h1, h2, h3, h4⟩ := h.root
    exact ⟨r, by rw [k.get, if_neg (Ne.symm k.notroot)]; exact h1, h2, h3, h4⟩
  · have := h.freedR i ((hf i).1 hi).1
    have := k.ge; omega
  · rw [k.get] at hy
    by_cases hi : i = id
    · rw [if_pos hi] at hy; cases hy
      rw [hf]; simp [hz, hi]
    · rw [if_neg hi] at hy
      rw [h.dead i y hy, hf]; simp [hi]
  · rw [k.get] at hy
    by_cases hi : i = id
    · rw [if_pos hi] at hy; cases hy; rw [hk]; simp
    · rw [if_neg hi] at hy; exact h.kidN i y hy hl
  · rw [k.get] at hy
    by_cases hi : i = id
    · rw [if_pos hi] at hy; cases hy; rw [hk] at hc; cases hc
    · rw [if_neg hi] at hy
      obtain ⟨x, h1, h2, h3⟩ := h.kid i y c hy hl hc
      exact ⟨x, by rw [k.get, if_neg (old c (by rw [lvb_of h1, h2]))]; exact h1, h2, h3⟩
  · rw [k.get] at hy
    by_cases hi : c = id
    · rw [if_pos hi] at hy; cases hy; exact absurd hp hyp
    · rw [if_neg hi] at hy
      obtain ⟨x, h1, h2, h3⟩ := h.par c y hy hl hyp
      exact ⟨x, by rw [k.get, if_neg (old _ (by rw [lvb_of h1, h2]))]; exact h1, h2, h3⟩
  · by_cases hq : i = id
    · subst hq
      exact ⟨[i], .top (by rw [k.get, if_pos rfl]) hz hp⟩
    · have : lvb d i = true := by unfold lvb at hi ⊢; rw [k.get, if_neg hq] at hi; exact hi
      obtain ⟨l, hl⟩ := h.path i this
      refine ⟨l, hl.keep (fun j hj y hy => ⟨y, ?_, rfl, rfl⟩)⟩
      obtain ⟨_, _, _, _, x, h1, h2⟩ := hl.mem j hj
      rw [k.get, if_neg (old j (by rw [lvb_of h1, h2]))]; exact hy
  · rw [k.get] at hy
    by_cases hi : i = id
    · rw [if_pos hi] at hy; cases hy; exact ha
    · rw [if_neg hi] at hy; exact h.attrs i y hy

/-- The number that comes next. -/
def nextId (d : dom_Dom) : Int := match d.freed.getLast? with | some i => i | none => (d.l.length : Int) + 1
def nodeOf (z : dom_node0) : dom_node := dom_node.mk true z.tag z.key z.text z.attrs [] z.parent
theorem put_ok {d : dom_Dom} (h : WF d) (hl : d.l.length < 5000) (n : Nat) (z : dom_node0) (hz : z.parent = 0) (ha : z.attrs.length ≤ 100000) : ∃ d', dom_Dom_put n d z = some (nextId d, d') ∧ WF d' ∧ New d d' (nextId d) (nodeOf z) ∧ d'.freed = d.freed.dropLast ∧ d'.l.length = (if d.freed = [] then d.l.length + 1 else d.l.length) := by
  unfold dom_Dom_put
  have hfl : d.freed.length ≤ d.l.length := nodup_le _ _ h.freedN (fun x hx => ⟨by have := h.freedR x hx; omega, (h.freedR x hx).2⟩)
  have hw : IntKind.wrap .i64 ((d.freed.length : Int) - 1) = (d.freed.length : Int) - 1 := w64 (by omega) (by omega)
  rw [hw]
  by_cases h0 : d.freed = []
  · rw [if_pos (by simp [h0])]
    have happ : ∀ q : dom_node, app 112 d.l [q] = some (d.l ++ [q]) := fun q => app_ok (by rw [bnd]; simp; omega)
    rw [happ, Option.bind_some]
    have hid : nextId d = (d.l.length : Int) + 1 := by unfold nextId; rw [h0]; rfl
    have hget := nd_app d (nodeOf z)
    have hnew : New d { d with l := d.l ++ [nodeOf z] } (nextId d) (nodeOf z) := by
      refine ⟨?_, by rw [hid]; obtain ⟨r, h1, _⟩ := h.root; have := nd_range h1; omega, by rw [hid]; omega, fun j => by rw [hget, hid], by simp, by simp⟩
      unfold lvb
      cases hn : nd d (nextId d) with
      | none => rfl
      | some y => have := nd_range hn; omega
    refine ⟨{ d with l := d.l ++ [nodeOf z] }, ?_, ?_, hnew, by rw [h0]; rfl, by simp [h0]⟩
    · rw [hid]
      simp only [Option.some.injEq, Prod.mk.injEq]
      refine ⟨by simp, rfl⟩
    · refine hnew.wf h rfl rfl hz ha (by simp; omega) (fun i => ?_) h.freedN
      rw [h0]; simp
  · have hpos : 0 < d.freed.length := by
      cases hq : d.freed with
      | nil => exact absurd hq h0
      | cons a l => simp
    rw [if_neg (by simp; omega)]
    have hlast : d.freed.getLast? = some (d.freed[d.freed.length - 1]) := by rw [List.getLast?_eq_getElem?]; exact List.getElem?_eq_getElem (by omega)
    have hidx : idx d.freed ((d.freed.length : Int) - 1) = some (nextId d) := by
      unfold idx; rw [if_pos (by omega)]
      unfold nextId; rw [hlast]
      rw [show ((d.freed.length : Int) - 1).toNat = d.freed.length - 1 by omega]
      exact List.getElem?_eq_getElem (by omega)
    have hcut : cut d.freed 0 ((d.freed.length : Int) - 1) = some d.freed.dropLast := by
      unfold cut; rw [if_pos ⟨by omega, by omega, by omega⟩]
      rw [show ((d.freed.length : Int) - 1).toNat = d.freed.length - 1 by omega, List.dropLast_eq_take]; rfl
    rw [hidx, Option.bind_some, hcut, Option.bind_some]
    have hmem : nextId d ∈ d.freed := by
      unfold nextId; rw [hlast]; exact List.getElem_mem _
    have hr := h.freedR _ hmem
    obtain ⟨y, hy⟩ := nd_some (d := d) (i := nextId d) (by omega) hr.2
    have hdead : y.lives = false := (h.dead _ y hy).2 hmem
    rw [idx_nd h.dm hy, Option.bind_some]
    have hget := nd_dset hy (nodeOf z)
    have hnew : New d { l := (dset d (nextId d) (nodeOf z)).l, freed := d.freed.dropLast } (nextId d) (nodeOf z) :=
      ⟨by rw [lvb_of hy, hdead], by omega, by omega, fun j => hget j, by simp, by simp⟩
    refine ⟨{ l := (dset d (nextId d) (nodeOf z)).l, freed := d.freed.dropLast }, ?_, ?_, hnew, rfl, by simp [h0]⟩
    · rw [setI_nd h.dm hy]; rfl
    · have hsplit : d.freed = d.freed.dropLast ++ [nextId d] := by
        have e : nextId d = d.freed.getLast h0 := by unfold nextId; rw [List.getLast?_eq_some_getLast h0]
        rw [e, List.dropLast_concat_getLast]
      have hfn := h.freedN
      rw [hsplit, List.nodup_append] at hfn
      refine hnew.wf h rfl rfl hz ha (by simp; exact h.len) (fun i => ?_) hfn.1
      constructor
      · intro hi
        exact ⟨by rw [hsplit]; exact List.mem_append_left _ hi, fun q => hfn.2.2 i hi (nextId d) (by simp) q⟩
      · rintro ⟨hi, hne⟩
        rw [hsplit] at hi
        rcases List.mem_append.1 hi with hi | hi
        · exact hi
        · exact absurd (List.mem_singleton.1 hi) hne
end Pr
end Go.Ev


namespace Go.Ev
namespace Pr
set_option linter.unusedVariables false
set_option linter.unusedSimpArgs false

/-! ### Out of a row -/
theorem index_loop (l : List Int) (c : Int) : ∀ (rest done : List Int) (f : Nat), l = done ++ rest → rest.length < f → l.length < 1000000 → slices_Index__int_int__l11 l c f (done.length : Int) = some (if c ∈ rest then ((done.length + rest.idxOf c : Nat) : Int) else -1)
  | [], done, f + 1, h, hf, hl => by
    rw [slices_Index__int_int__l11, if_neg (by subst h; simp)]
    simp
  | z :: rest, done, f + 1, h, hf, hl => by
    have hd : done.length < l.length := by subst h; simp
    rw [slices_Index__int_int__l11, if_pos (by rw [decide_eq_true_eq]; omega), idx_mid h, Option.bind_some]
    by_cases hq : c = z
    · subst hq
      rw [if_pos (by simp)]
      simp [List.idxOf_cons_self]
    · rw [if_neg (by simpa using hq), w64 (by omega) (by omega)]
      have := index_loop l c rest (done ++ [z]) f (by rw [h]; simp) (by simpa using hf) hl
      simp only [List.length_append, List.length_singleton, Int.natCast_add] at this
      rw [show ((done.length : Int) + 1) = (done.length : Int) + ((1 : Nat) : Int) by omega, this]
      by_cases hm : c ∈ rest
      · rw [if_pos hm, if_pos (List.mem_cons_of_mem _ hm), List.idxOf_cons]
        have hb : (z == c) = false := by simpa using Ne.symm hq
        rw [hb]
        simp; omega
      · rw [if_neg hm, if_neg (by simp [hq, hm])]
theorem index_ok {l : List Int} {c : Int} (h : c ∈ l) {n : Nat} (hn : l.length < n) (hl : l.length < 1000000) : slices_Index__int_int_ n l c = some (l.idxOf c : Int) := by
  unfold slices_Index__int_int_
  have := index_loop l c l [] n rfl hn hl
  rw [if_pos h] at this
  simpa using this
theorem delete_ok {l : List Int} {c : Int} (h : c ∈ l) (hl : l.length < 1000000) (n : Nat) : slices_Delete__int_int_ n l (l.idxOf c : Int) (IntKind.wrap .i64 ((l.idxOf c : Int) + 1)) = some (l.erase c) := by
  have hi : l.idxOf c < l.length := List.idxOf_lt_length_of_mem h
  rw [w64 (by omega) (by omega)]
  unfold slices_Delete__int_int_ delI
  rw [if_pos ⟨by omega, by omega, by omega⟩, Option.bind_some, if_neg (by simp; omega)]
  rw [List.erase_eq_eraseIdx_of_idxOf rfl, List.eraseIdx_eq_take_drop_succ]
  rw [Int.toNat_natCast, show ((l.idxOf c : Int) + 1).toNat = l.idxOf c + 1 by omega]

/-! ### Out of its parent -/
def dleave (d : dom_Dom) (c : Int) : dom_Dom := match nd d c with
  | some z => if z.parent = 0 then d else match nd d z.parent with
    | some y => dset (dset d z.parent { y with kids := y.kids.erase c }) c { z with parent := 0 }
    | none => d
  | none => d
theorem kids_len {d : dom_Dom} (h : WF d) {i : Int} {z : dom_node} (hz : nd d i = some z) (hl : z.lives = true) : z.kids.length ≤ 5000 := by
  refine Nat.le_trans (nodup_le d.l.length _ (h.kidN i z hz hl) (fun k hk => ?_)) h.len
  obtain ⟨y, h1, _⟩ := h.kid i z k hz hl hk
  exact nd_range h1
theorem par_ne {d : dom_Dom} (h : WF d) {c : Int} {z : dom_node} (hz : nd d c = some z) (hl : z.lives = true) : z.parent ≠ c := fun q => by
  obtain ⟨l, hp⟩ := h.path c (by rw [lvb_of hz, hl])
  have hc := nd_range hz
  cases hp with
  | top h2 _ hp2 => rw [hz] at h2; cases h2; omega
  | up h2 hl2 hp2 k =>
    rw [hz] at h2; cases h2
    rw [q] at k
    have := k.uniq (.up hz hl2 hp2 (by rw [q]; exact k))
    have := congrArg List.length this
    simp at this
theorem nd_dleave {d : dom_Dom} {c : Int} {z y : dom_node} (hz : nd d c = some z) (hp : z.parent ≠ 0) (hy : nd d z.parent = some y) (hne : z.parent ≠ c) (j : Int) :
    nd (dleave d c) j = if j = c then some { z with parent := 0 } else if j = z.parent then some { y with kids := y.kids.erase c } else nd d j := by
  unfold dleave
  rw [hz]
  simp only
  rw [if_neg hp, hy]
  simp only
  have h1 := nd_dset hy { y with kids := y.kids.erase c } c
  rw [if_neg (Ne.symm hne)] at h1
  rw [nd_dset (h1.trans hz), nd_dset hy]
theorem dleave_top {d : dom_Dom} {c : Int} {z : dom_node} (hz : nd d c = some z) (hp : z.parent = 0) : dleave d c = d := by
  unfold dleave; rw [hz]; simp only; rw [if_pos hp]
@[simp] theorem dleave_len (d : dom_Dom) (c : Int) : (dleave d c).l.length = d.l.length := by
  unfold dleave; split
  · split
    · rfl
    · split <;> simp
  · rfl
@[simp] theorem dleave_freed (d : dom_Dom) (c : Int) : (dleave d c).freed = d.freed := by
  unfold dleave; split
  · split
    · rfl
    · split <;> simp
  · rfl
theorem leave_ok {d : dom_Dom} (h : WF d) {c : Int} (hc : lvb d c = true) {n : Nat} (hn : 6000 ≤ n) : dom_Dom_leave n d c = some (dleave d c) := by
  obtain ⟨z, hz, hl⟩ := lvb_some hc
  unfold dom_Dom_leave
  rw [idx_nd h.dm hz, Option.bind_some]
  by_cases hp : z.parent = 0
  · rw [if_pos (by simpa using hp), dleave_top hz hp]
  · rw [if_neg (by simpa using hp)]
    obtain ⟨y, hy, hyl, hm, _⟩ := h.par c z hz hl hp
    have hk := kids_len h hy hyl
    have hne := par_ne h hz hl
    rw [idx_nd h.dm hy]
    simp only [Option.bind_some]
    rw [index_ok hm (by omega) (by omega), Option.bind_some, delete_ok hm (by omega), Option.bind_some]
    rw [setI_nd h.dm hy]
    have h1 := nd_dset hy { y with kids := y.kids.erase c } c
    rw [if_neg (Ne.symm hne)] at h1
    have hd : (dset d z.parent { y with kids := y.kids.erase c }).l.length ≤ dM := by rw [dset_len]; exact h.dm
    have e1 : dom_node.mk y.lives y.tag y.key y.text y.attrs (y.kids.erase c) y.parent = { y with kids := y.kids.erase c } := rfl
    rw [e1, idx_nd hd (h1.trans hz), Option.bind_some, setI_nd hd (h1.trans hz)]
    unfold dleave
    rw [hz]
    simp only
    rw [if_neg hp, hy]
    rfl
theorem dleave_wf {d : dom_Dom} (h : WF d) {c : Int} (hc : lvb d c = true) : WF (dleave d c) := by
  obtain ⟨z, hz, hl⟩ := lvb_some hc
  by_cases hp : z.parent = 0
  · rw [dleave_top hz hp]; exact h
  obtain ⟨y, hy, hyl, hm, ht⟩ := h.par c z hz hl hp
  have hne := par_ne h hz hl
  have hget := nd_dleave hz hp hy hne
  -- what each node is now
  have low : ∀ i z', nd (dleave d c) i = some z' → ∃ z0, nd d i = some z0 ∧ z'.lives = z0.lives ∧ z'.attrs = z0.attrs ∧ z'.tag = z0.tag ∧ (i = c ∧ z'.parent = 0 ∨ i ≠ c ∧ z'.parent = z0.parent) ∧ (i = z.parent ∧ z'.kids = z0.kids.erase c ∨ i ≠ z.parent ∧ z'.kids = z0.kids) := fun i z' hi => by
    rw [hget] at hi
    by_cases h1 : i = c
    · subst h1; rw [if_pos rfl] at hi; cases hi
      exact ⟨z, hz, rfl, rfl, rfl, .inl ⟨rfl, rfl⟩, .inr ⟨Ne.symm hne, rfl⟩⟩
    · rw [if_neg h1] at hi
      by_cases h2 : i = z.parent
      · subst h2; rw [if_pos rfl] at hi; cases hi
        exact ⟨y, hy, rfl, rfl, rfl, .inr ⟨h1, rfl⟩, .inl ⟨rfl, rfl⟩⟩
      · rw [if_neg h2] at hi
        exact ⟨z', hi, rfl, rfl, rfl, .inr ⟨h1, rfl⟩, .inr ⟨h2, rfl⟩⟩
  have up : ∀ i z0, nd d i = some z0 → ∃ z', nd (dleave d c) i = some z' := fun i z0 hi => by
    have := nd_range hi
    exact nd_some this.1 (by rw [dleave_len]; exact this.2)
  have lvs : ∀ i, lvb (dleave d c) i = true → lvb d i = true := fun i hi => by
    obtain ⟨z', h1, h2⟩ := lvb_some hi
    obtain ⟨z0, q1, q2, _⟩ := low i z' h1
    rw [lvb_of q1, ← q2, h2]
  refine ⟨by rw [dleave_len]; exact h.len, ?_, fun i hi => ?_, by rw [dleave_freed]; exact h.freedN, fun i z' hi => ?_, fun i z' hi hl' => ?_, fun i z' k hi hl' hk => ?_, fun k y' hk hl' hp' => ?_, fun i hi => ?_, fun i z' hi => ?_⟩
  · obtain ⟨r, r1, r2, r3, r4⟩ := h.root
    obtain ⟨r', hr'⟩ := up 1 r r1
    obtain ⟨z0, q1, q2, q3, q4, q5, q6⟩ := low 1 r' hr'
    rw [r1] at q1; cases q1
    refine ⟨r', hr', by rw [q2, r2], ?_, by rw [q4]; exact r4⟩
    rcases q5 with ⟨_, q⟩ | ⟨_, q⟩
    · exact q
    · rw [q, r3]
  · rw [dleave_freed] at hi; rw [dleave_len]; exact h.freedR i hi
  · obtain ⟨z0, q1, q2, _⟩ := low i z' hi
    rw [q2, dleave_freed]; exact h.dead i z0 q1
  · obtain ⟨z0, q1, q2, q3, q4, q5, q6⟩ := low i z' hi
    have := h.kidN i z0 q1 (by rw [← q2, hl'])
    rcases q6 with ⟨_, q⟩ | ⟨_, q⟩
    · rw [q]; exact this.erase _
    · rw [q]; exact this
  · obtain ⟨z0, q1, q2, q3, q4, q5, q6⟩ := low i z' hi
    have hkm : k ∈ z0.kids := by
      rcases q6 with ⟨_, q⟩ | ⟨_, q⟩
      · rw [q] at hk; exact List.mem_of_mem_erase hk
      · rw [q] at hk; exact hk
    obtain ⟨x, x1, x2, x3⟩ := h.kid i z0 k q1 (by rw [← q2, hl']) hkm
    have hkc : k ≠ c := fun q => by
      subst q
      rw [hz] at x1; cases x1
      rcases q6 with ⟨e, q⟩ | ⟨e, q⟩
      · rw [q] at hk
        have := h.kidN i z0 q1 (by rw [← q2, hl'])
        exact ((List.Nodup.mem_erase_iff this).1 hk).1 rfl
      · exact e x3.symm
    obtain ⟨x', hx'⟩ := up k x x1
    obtain ⟨x0, p1, p2, p3, p4, p5, p6⟩ := low k x' hx'
    rw [x1] at p1; cases p1
    rcases p5 with ⟨e, _⟩ | ⟨_, e⟩
    · exact absurd e hkc
    · exact ⟨x', hx', by rw [p2, x2], by rw [e, x3]⟩
  · obtain ⟨z0, q1, q2, q3, q4, q5, q6⟩ := low k y' hk
    rcases q5 with ⟨_, q⟩ | ⟨hkc, q⟩
    · exact absurd q hp'
    · obtain ⟨x, x1, x2, x3, x4⟩ := h.par k z0 q1 (by rw [← q2, hl']) (by rw [← q]; exact hp')
      rw [q]
      obtain ⟨x', hx'⟩ := up _ x x1
      obtain ⟨x0, p1, p2, p3, p4, p5, p6⟩ := low _ x' hx'
      rw [x1] at p1; cases p1
      refine ⟨x', hx', by rw [p2, x2], ?_, by rw [p4]; exact x4⟩
      rcases p6 with ⟨_, e⟩ | ⟨_, e⟩
      · rw [e]; exact (List.mem_erase_of_ne hkc).2 x3
      · rw [e]; exact x3
  · obtain ⟨l, hpath⟩ := h.path i (lvs i hi)
    clear hi
    induction hpath with
    | top g gl gp =>
      obtain ⟨g', hg'⟩ := up _ _ g
      obtain ⟨z0, q1, q2, q3, q4, q5, q6⟩ := low _ g' hg'
      rw [g] at q1; cases q1
      refine ⟨[_], .top hg' (by rw [q2, gl]) ?_⟩
      rcases q5 with ⟨_, q⟩ | ⟨_, q⟩
      · exact q
      · rw [q, gp]
    | up g gl gp k ih =>
      obtain ⟨g', hg'⟩ := up _ _ g
      obtain ⟨z0, q1, q2, q3, q4, q5, q6⟩ := low _ g' hg'
      rw [g] at q1; cases q1
      rcases q5 with ⟨_, q⟩ | ⟨_, q⟩
      · exact ⟨[_], .top hg' (by rw [q2, gl]) q⟩
      · obtain ⟨l', hl'⟩ := ih
        exact ⟨_ :: l', .up hg' (by rw [q2, gl]) (by rw [q]; exact gp) (by rw [q]; exact hl')⟩
  · obtain ⟨z0, q1, q2, q3, _⟩ := low i z' hi
    rw [q3]; exact h.attrs i z0 q1
end Pr
end Go.Ev


namespace Go.Ev
namespace Pr
set_option linter.unusedVariables false
set_option linter.unusedSimpArgs false

/-! ### Into a parent -/
def clampK (a : Int) (n : Nat) : Nat := (max 0 (min a (n : Int))).toNat
def insK (l : List Int) (a c : Int) : List Int := l.take (clampK a l.length) ++ c :: l.drop (clampK a l.length)
theorem insK_mem {l : List Int} {a c x : Int} : x ∈ insK l a c ↔ x = c ∨ x ∈ l := by
  unfold insK
  have e := List.take_append_drop (clampK a l.length) l
  constructor
  · intro h
    rcases List.mem_append.1 h with h | h
    · exact .inr (List.mem_of_mem_take h)
    · rcases List.mem_cons.1 h with h | h
      · exact .inl h
      · exact .inr (List.mem_of_mem_drop h)
  · rintro (rfl | h)
    · simp
    · rw [← e] at h
      rcases List.mem_append.1 h with h | h
      · exact List.mem_append_left _ h
      · exact List.mem_append_right _ (List.mem_cons_of_mem _ h)
theorem insK_perm (l : List Int) (a c : Int) : (insK l a c).Perm (c :: l) := by
  unfold insK
  refine List.perm_middle.trans ?_
  rw [List.take_append_drop]
theorem insK_nodup {l : List Int} {a c : Int} (h : l.Nodup) (hc : c ∉ l) : (insK l a c).Nodup := (insK_perm l a c).nodup_iff.2 (List.nodup_cons.2 ⟨hc, h⟩)
theorem ins_eq {l : List Int} {a c : Int} (h : l.length ≤ 100000) : insI l (maxI 0 (minI a (l.length : Int))) c = some (insK l a c) := by
  have e : maxI 0 (minI a (l.length : Int)) = max 0 (min a (l.length : Int)) := by
    unfold maxI minI; split <;> split <;> omega
  rw [e]
  unfold insI
  rw [if_pos ⟨by omega, by omega, by omega⟩]
  rfl

def upL (d : dom_Dom) : Nat → Int → List Int
  | 0, _ => []
  | f + 1, i => match nd d i with
    | some z => if z.lives = true then (if z.parent = 0 then [i] else i :: upL d f z.parent) else []
    | none => []
def pathOf (d : dom_Dom) (i : Int) : List Int := upL d d.l.length i
theorem Path.upL {d : dom_Dom} {i : Int} {l : List Int} (h : Path d i l) : ∀ f, l.length ≤ f → upL d f i = l := by
  induction h with
  | top h hl hp =>
    intro f hf
    cases f with
    | zero => simp at hf
    | succ f => simp only [Pr.upL, h, hl, hp, if_true]
  | up h hl hp k ih =>
    intro f hf
    cases f with
    | zero => simp at hf
    | succ f => simp only [Pr.upL, h, hl, if_true, if_neg hp]; rw [ih f (by simpa using hf)]
theorem Path.of {d : dom_Dom} {i : Int} {l : List Int} (h : Path d i l) : pathOf d i = l := h.upL _ h.length
def tagOf (d : dom_Dom) (i : Int) : Str := match nd d i with | some z => z.tag | none => []
/-- May a node be put into another one? -/
def insOk (d : dom_Dom) (p c : Int) : Bool := lvb d p && lvb d c && !(tagOf d p == []) && !(c == 1) && !(decide (c ∈ pathOf d p))
def dlink (d : dom_Dom) (p c a : Int) : dom_Dom := match nd d p, nd d c with
  | some y, some z => dset (dset d p { y with kids := insK y.kids a c }) c { z with parent := p }
  | _, _ => d
theorem nd_dlink {d : dom_Dom} {p c a : Int} {y z : dom_node} (hy : nd d p = some y) (hz : nd d c = some z) (hne : c ≠ p) (j : Int) :
    nd (dlink d p c a) j = if j = c then some { z with parent := p } else if j = p then some { y with kids := insK y.kids a c } else nd d j := by
  unfold dlink
  rw [hy, hz]
  simp only
  have h1 := nd_dset hy { y with kids := insK y.kids a c } c
  rw [if_neg hne] at h1
  rw [nd_dset (h1.trans hz), nd_dset hy]
@[simp] theorem dlink_len (d : dom_Dom) (p c a : Int) : (dlink d p c a).l.length = d.l.length := by unfold dlink; split <;> simp
@[simp] theorem dlink_freed (d : dom_Dom) (p c a : Int) : (dlink d p c a).freed = d.freed := by unfold dlink; split <;> simp

theorem dlink_wf {d : dom_Dom} (h : WF d) {p c a : Int} {y z : dom_node} (hy : nd d p = some y) (hyl : y.lives = true) (ht : y.tag ≠ []) (hz : nd d c = some z) (hzl : z.lives = true) (hzp : z.parent = 0) (hc1 : c ≠ 1) {l : List Int} (hp : Path d p l) (hcl : c ∉ l) : WF (dlink d p c a) := by
  have hne : c ≠ p := fun q => by obtain ⟨t, rfl⟩ := hp.head; exact hcl (by rw [q]; exact List.mem_cons_self)
  have hget := nd_dlink (a := a) hy hz hne
  have hpr := nd_range hy
  have low : ∀ i z', nd (dlink d p c a) i = some z' → ∃ z0, nd d i = some z0 ∧ z'.lives = z0.lives ∧ z'.attrs = z0.attrs ∧ z'.tag = z0.tag ∧ (i = c ∧ z'.parent = p ∨ i ≠ c ∧ z'.parent = z0.parent) ∧ (i = p ∧ z'.kids = insK z0.kids a c ∨ i ≠ p ∧ z'.kids = z0.kids) := fun i z' hi => by
    rw [hget] at hi
    by_cases h1 : i = c
    · subst h1; rw [if_pos rfl] at hi; cases hi
      exact ⟨z, hz, rfl, rfl, rfl, .inl ⟨rfl, rfl⟩, .inr ⟨hne, rfl⟩⟩
    · rw [if_neg h1] at hi
      by_cases h2 : i = p
      · subst h2; rw [if_pos rfl] at hi; cases hi
        exact ⟨y, hy, rfl, rfl, rfl, .inr ⟨h1, rfl⟩, .inl ⟨rfl, rfl⟩⟩
      · rw [if_neg h2] at hi
        exact ⟨z', hi, rfl, rfl, rfl, .inr ⟨h1, rfl⟩, .inr ⟨h2, rfl⟩⟩
  have up : ∀ i z0, nd d i = some z0 → ∃ z', nd (dlink d p c a) i = some z' := fun i z0 hi => by
    have := nd_range hi
    exact nd_some this.1 (by rw [dlink_len]; exact this.2)
  have lvs : ∀ i, lvb (dlink d p c a) i = true → lvb d i = true := fun i hi => by
    obtain ⟨z', h1, h2⟩ := lvb_some hi
    obtain ⟨z0, q1, q2, _⟩ := low i z' h1
    rw [lvb_of q1, ← q2, h2]
  have hcy : c ∉ y.kids := fun q => by
    obtain ⟨x, x1, x2, x3⟩ := h.kid p y c hy hyl q
    rw [hz] at x1; cases x1
    omega
  have hpath : ∃ l', Path (dlink d p c a) p l' := ⟨l, hp.keep (fun j hj x hx => by
    obtain ⟨x', hx'⟩ := up j x hx
    obtain ⟨x0, q1, q2, q3, q4, q5, q6⟩ := low j x' hx'
    rw [hx] at q1; cases q1
    rcases q5 with ⟨e, _⟩ | ⟨_, e⟩
    · exact absurd (e ▸ hj) hcl
    · exact ⟨x', hx', q2, e⟩)⟩
  refine ⟨by rw [dlink_len]; exact h.len, ?_, fun i hi => ?_, by rw [dlink_freed]; exact h.freedN, fun i z' hi => ?_, fun i z' hi hl' => ?_, fun i z' k hi hl' hk => ?_, fun k y' hk hl' hp' => ?_, fun i hi => ?_, fun i z' hi => ?_⟩
  · obtain ⟨r, r1, r2, r3, r4⟩ := h.root
    obtain ⟨r', hr'⟩ := up 1 r r1
    obtain ⟨z0, q1, q2, q3, q4, q5, q6⟩ := low 1 r' hr'
    rw [r1] at q1; cases q1
    refine ⟨r', hr', by rw [q2, r2], ?_, by rw [q4]; exact r4⟩
    rcases q5 with ⟨q, _⟩ | ⟨_, q⟩
    · exact absurd q.symm hc1
    · rw [q, r3]
  · rw [dlink_freed] at hi; rw [dlink_len]; exact h.freedR i hi
  · obtain ⟨z0, q1, q2, _⟩ := low i z' hi
    rw [q2, dlink_freed]; exact h.dead i z0 q1
  · obtain ⟨z0, q1, q2, q3, q4, q5, q6⟩ := low i z' hi
    have := h.kidN i z0 q1 (by rw [← q2, hl'])
    rcases q6 with ⟨e, q⟩ | ⟨_, q⟩
    · subst e; rw [hy] at q1; cases q1
      rw [q]; exact insK_nodup this hcy
    · rw [q]; exact this
  · obtain ⟨z0, q1, q2, q3, q4, q5, q6⟩ := low i z' hi
    by_cases hkc : k = c
    · subst hkc
      obtain ⟨x', hx'⟩ := up k z hz
      obtain ⟨x0, p1, p2, p3, p4, p5, p6⟩ := low k x' hx'
      rw [hz] at p1; cases p1
      refine ⟨x', hx', by rw [p2, hzl], ?_⟩
      have hxp : x'.parent = p := by
        rcases p5 with ⟨_, e⟩ | ⟨e, _⟩
        · exact e
        · exact absurd rfl e
      rw [hxp]
      rcases q6 with ⟨e, _⟩ | ⟨_, q⟩
      · exact e.symm
      · rw [q] at hk
        obtain ⟨w, w1, w2, w3⟩ := h.kid i z0 k q1 (by rw [← q2, hl']) hk
        rw [hz] at w1; cases w1
        have := nd_range q1
        omega
    · have hkm : k ∈ z0.kids := by
        rcases q6 with ⟨_, q⟩ | ⟨_, q⟩
        · rw [q] at hk; exact (insK_mem.1 hk).resolve_left hkc
        · rw [q] at hk; exact hk
      obtain ⟨x, x1, x2, x3⟩ := h.kid i z0 k q1 (by rw [← q2, hl']) hkm
      obtain ⟨x', hx'⟩ := up k x x1
      obtain ⟨x0, p1, p2, p3, p4, p5, p6⟩ := low k x' hx'
      rw [x1] at p1; cases p1
      rcases p5 with ⟨e, _⟩ | ⟨_, e⟩
      · exact absurd e hkc
      · exact ⟨x', hx', by rw [p2, x2], by rw [e, x3]⟩
  · obtain ⟨z0, q1, q2, q3, q4, q5, q6⟩ := low k y' hk
    rcases q5 with ⟨e, q⟩ | ⟨hkc, q⟩
    · obtain ⟨x', hx'⟩ := up p y hy
      obtain ⟨x0, p1, p2, p3, p4, p5, p6⟩ := low p x' hx'
      rw [hy] at p1; cases p1
      rw [q]
      refine ⟨x', hx', by rw [p2, hyl], ?_, by rw [p4]; exact ht⟩
      rcases p6 with ⟨_, e2⟩ | ⟨e2, _⟩
      · rw [e2, e]; exact insK_mem.2 (.inl rfl)
      · exact absurd rfl e2
    · obtain ⟨x, x1, x2, x3, x4⟩ := h.par k z0 q1 (by rw [← q2, hl']) (by rw [← q]; exact hp')
      rw [q]
      obtain ⟨x', hx'⟩ := up _ x x1
      obtain ⟨x0, p1, p2, p3, p4, p5, p6⟩ := low _ x' hx'
      rw [x1] at p1; cases p1
      refine ⟨x', hx', by rw [p2, x2], ?_, by rw [p4]; exact x4⟩
      rcases p6 with ⟨_, e⟩ | ⟨_, e⟩
      · rw [e]; exact insK_mem.2 (.inr x3)
      · rw [e]; exact x3
  · obtain ⟨l, hpath'⟩ := h.path i (lvs i hi)
    clear hi
    induction hpath' with
    | top g gl gp =>
      obtain ⟨g', hg'⟩ := up _ _ g
      obtain ⟨z0, q1, q2, q3, q4, q5, q6⟩ := low _ g' hg'
      rw [g] at q1; cases q1
      rcases q5 with ⟨_, q⟩ | ⟨_, q⟩
      · obtain ⟨l', hl'⟩ := hpath
        exact ⟨_ :: l', .up hg' (by rw [q2, gl]) (by rw [q]; omega) (by rw [q]; exact hl')⟩
      · exact ⟨[_], .top hg' (by rw [q2, gl]) (by rw [q, gp])⟩
    | up g gl gp k ih =>
      obtain ⟨g', hg'⟩ := up _ _ g
      obtain ⟨z0, q1, q2, q3, q4, q5, q6⟩ := low _ g' hg'
      rw [g] at q1; cases q1
      rcases q5 with ⟨_, q⟩ | ⟨_, q⟩
      · obtain ⟨l', hl'⟩ := hpath
        exact ⟨_ :: l', .up hg' (by rw [q2, gl]) (by rw [q]; omega) (by rw [q]; exact hl')⟩
      · obtain ⟨l', hl'⟩ := ih
        exact ⟨_ :: l', .up hg' (by rw [q2, gl]) (by rw [q]; exact gp) (by rw [q]; exact hl')⟩
  · obtain ⟨z0, q1, q2, q3, _⟩ := low i z' hi
    rw [q3]; exact h.attrs i z0 q1

/-- The way up is the same where the node that left isn't on it. -/
theorem dleave_path {d : dom_Dom} (h : WF d) {c : Int} (hc : lvb d c = true) {i : Int} {l : List Int} (hp : Path d i l) (hcl : c ∉ l) : Path (dleave d c) i l := by
  obtain ⟨z, hz, hl⟩ := lvb_some hc
  by_cases hp0 : z.parent = 0
  · rw [dleave_top hz hp0]; exact hp
  obtain ⟨y, hy, hyl, hm, ht⟩ := h.par c z hz hl hp0
  have hget := nd_dleave hz hp0 hy (par_ne h hz hl)
  refine hp.keep (fun j hj x hx => ?_)
  rw [hget, if_neg (fun (q : j = c) => hcl (by rw [← q]; exact hj))]
  by_cases h2 : j = z.parent
  · rw [if_pos h2]
    subst h2
    rw [hy] at hx; cases hx
    exact ⟨_, rfl, rfl, rfl⟩
  · rw [if_neg h2]; exact ⟨x, hx, rfl, rfl⟩
theorem dleave_self {d : dom_Dom} (h : WF d) {c : Int} (hc : lvb d c = true) : ∃ z, nd (dleave d c) c = some z ∧ z.lives = true ∧ z.parent = 0 := by
  obtain ⟨z, hz, hl⟩ := lvb_some hc
  by_cases hp0 : z.parent = 0
  · rw [dleave_top hz hp0]; exact ⟨z, hz, hl, hp0⟩
  obtain ⟨y, hy, hyl, hm, ht⟩ := h.par c z hz hl hp0
  have hget := nd_dleave hz hp0 hy (par_ne h hz hl)
  exact ⟨{ z with parent := 0 }, by rw [hget, if_pos rfl], hl, rfl⟩
theorem dleave_get {d : dom_Dom} (h : WF d) {c : Int} (hc : lvb d c = true) {i : Int} {z : dom_node} (hz : nd d i = some z) (hzl : z.lives = true) : nd (dleave d c) i = some { z with kids := z.kids.erase c, parent := if i = c then 0 else z.parent } := by
  obtain ⟨zc, hzc, hl⟩ := lvb_some hc
  have hno : i ≠ zc.parent → z.kids.erase c = z.kids := fun hne => List.erase_of_not_mem (fun hm => by
    obtain ⟨x, x1, x2, x3⟩ := h.kid i z c hz hzl hm
    rw [hzc] at x1; cases x1
    exact hne x3.symm)
  by_cases hp0 : zc.parent = 0
  · rw [dleave_top hzc hp0, hno (by have := nd_range hz; omega), hz]
    by_cases hi : i = c
    · subst hi; rw [hzc] at hz; cases hz; rw [if_pos rfl, ← hp0]
    · rw [if_neg hi]
  obtain ⟨y, hy, hyl, hm, ht⟩ := h.par c zc hzc hl hp0
  have hne := par_ne h hzc hl
  rw [nd_dleave hzc hp0 hy hne]
  by_cases hi : i = c
  · subst hi; rw [hzc] at hz; cases hz
    rw [if_pos rfl, if_pos rfl, hno (Ne.symm hne)]
  · rw [if_neg hi, if_neg hi]
    by_cases h2 : i = zc.parent
    · subst h2; rw [hy] at hz; cases hz; rw [if_pos rfl]
    · rw [if_neg h2, hno h2, hz]
theorem dlink_get {d : dom_Dom} {p c a : Int} {y z : dom_node} (hy : nd d p = some y) (hz : nd d c = some z) (hne : c ≠ p) {i : Int} {x : dom_node} (hx : nd d i = some x) : nd (dlink d p c a) i = some { x with kids := if i = p then insK x.kids a c else x.kids, parent := if i = c then p else x.parent } := by
  rw [nd_dlink hy hz hne]
  by_cases hi : i = c
  · subst hi; rw [hz] at hx; cases hx
    rw [if_pos rfl, if_pos rfl, if_neg hne]
  · rw [if_neg hi, if_neg hi]
    by_cases h2 : i = p
    · subst h2; rw [hy] at hx; cases hx; rw [if_pos rfl, if_pos rfl]
    · rw [if_neg h2, if_neg h2, hx]
theorem insert_ok {d : dom_Dom} (h : WF d) {n : Nat} (hn : 6000 ≤ n) (p c a : Int) : dom_Dom_Insert n d p c a = some (if insOk d p c = true then (true, dlink (dleave d c) p c a) else (false, d)) := by
  unfold dom_Dom_Insert
  rw [at_ok h.dm, at_ok h.dm]
  simp only [Option.bind_some]
  by_cases hp : lvb d p = true
  rotate_left 1
  · rw [if_neg hp]
    have : insOk d p c = false := by unfold insOk; simp [hp]
    rw [this]; simp
  by_cases hc : lvb d c = true
  rotate_left 1
  · rw [if_pos hp, if_neg hc]
    have : insOk d p c = false := by unfold insOk; simp [hc]
    obtain ⟨y, hy, _⟩ := lvb_some hp
    rw [this, idx_nd h.dm hy]; simp
  rw [if_pos hp, if_pos hc]
  obtain ⟨y, l, hy, hyl, hpath, _⟩ := h.lp hp
  obtain ⟨z, hz, hzl⟩ := lvb_some hc
  have hcr := nd_range hz
  rw [idx_nd h.dm hy, idx_nd h.dm hz]
  simp only [Option.bind_some]
  have htag : tagOf d p = y.tag := by unfold tagOf; rw [hy]
  by_cases hg : y.tag = [] ∨ c = 1
  · rw [if_pos (by simpa using hg)]
    have : insOk d p c = false := by unfold insOk; rw [htag]; rcases hg with q | q <;> simp [q]
    rw [this]; simp
  rw [if_neg (by simpa using hg), within_ok' h hpath (by omega) (by omega), Option.bind_some]
  by_cases hin : c ∈ l
  · rw [if_pos (by simpa using hin)]
    have : insOk d p c = false := by unfold insOk; rw [hpath.of]; simp [hin]
    rw [this]; simp
  rw [if_neg (by simpa using hin), leave_ok h hc hn, Option.bind_some]
  have hok : insOk d p c = true := by
    unfold insOk; rw [htag, hpath.of]
    simp only [not_or] at hg
    simp [hp, hc, hin, hg.1, hg.2]
  rw [hok, if_pos rfl]
  have hW := dleave_wf h hc
  have hP := dleave_path h hc hpath hin
  obtain ⟨y1, hy1, hyl1⟩ : ∃ y1, nd (dleave d c) p = some y1 ∧ y1.lives = true := by
    obtain ⟨_, _, _, _, x, x1, x2⟩ := hP.mem p (by obtain ⟨t, rfl⟩ := hP.head; exact List.mem_cons_self)
    exact ⟨x, x1, x2⟩
  obtain ⟨z1, hz1, hzl1, hzp1⟩ := dleave_self h hc
  have hne : c ≠ p := fun q => by obtain ⟨t, rfl⟩ := hpath.head; exact hin (by rw [q]; exact List.mem_cons_self)
  have hk := kids_len hW hy1 hyl1
  rw [idx_nd hW.dm hy1, Option.bind_some, ins_eq (by omega), Option.bind_some, setI_nd hW.dm hy1]
  have e1 : dom_node.mk y1.lives y1.tag y1.key y1.text y1.attrs (insK y1.kids a c) y1.parent = { y1 with kids := insK y1.kids a c } := rfl
  rw [e1]
  have h1 := nd_dset hy1 { y1 with kids := insK y1.kids a c } c
  rw [if_neg hne] at h1
  have hd : (dset (dleave d c) p { y1 with kids := insK y1.kids a c }).l.length ≤ dM := by rw [dset_len]; exact hW.dm
  rw [idx_nd hd (h1.trans hz1), Option.bind_some, setI_nd hd (h1.trans hz1)]
  unfold dlink
  rw [hy1, hz1]
  rfl
/-- A node put into another one: all that is so then. -/
theorem ins_wf {d : dom_Dom} (h : WF d) {p c : Int} (a : Int) (hok : insOk d p c = true) : WF (dlink (dleave d c) p c a) ∧ (∀ i z, nd d i = some z → z.lives = true →
    nd (dlink (dleave d c) p c a) i = some { z with kids := if i = p then insK (z.kids.erase c) a c else z.kids.erase c, parent := if i = c then p else z.parent }) := by
  unfold insOk at hok
  simp only [Bool.and_eq_true, Bool.not_eq_true', beq_eq_false_iff_ne, decide_eq_false_iff_not] at hok
  obtain ⟨⟨⟨⟨hp, hc⟩, ht⟩, hc1⟩, hin⟩ := hok
  obtain ⟨y, l, hy, hyl, hpath, _⟩ := h.lp hp
  rw [hpath.of] at hin
  have htag : tagOf d p = y.tag := by unfold tagOf; rw [hy]
  rw [htag] at ht
  have hW := dleave_wf h hc
  have hP := dleave_path h hc hpath hin
  have hy1 := dleave_get h hc hy hyl
  obtain ⟨z1, hz1, hzl1, hzp1⟩ := dleave_self h hc
  have hne : c ≠ p := fun q => by obtain ⟨t, rfl⟩ := hpath.head; exact hin (by rw [q]; exact List.mem_cons_self)
  refine ⟨dlink_wf hW hy1 hyl ht hz1 hzl1 hzp1 hc1 hP hin, fun i z hz hzl => ?_⟩
  rw [dlink_get hy1 hz1 hne (dleave_get h hc hz hzl)]
  by_cases hi : i = c
  · subst hi; simp
  · simp [hi]
theorem parent_ok {d : dom_Dom} (h : WF d) (n : Nat) (i : Int) : dom_Dom_Parent n d i = some (match nd d i with | some z => if z.lives = true then z.parent else 0 | none => 0) := by
  unfold dom_Dom_Parent
  rw [at_ok h.dm, Option.bind_some]
  unfold lvb
  cases hz : nd d i with
  | none => rfl
  | some z =>
    simp only
    by_cases hl : z.lives = true
    · rw [if_pos hl, if_pos hl, idx_nd h.dm hz]; rfl
    · rw [if_neg hl, if_neg hl]
theorem kids_ok {d : dom_Dom} (h : WF d) (n : Nat) (i : Int) : dom_Dom_Kids n d i = some (match nd d i with | some z => if z.lives = true then z.kids else [] | none => []) := by
  unfold dom_Dom_Kids
  rw [at_ok h.dm, Option.bind_some]
  unfold lvb
  cases hz : nd d i with
  | none => rfl
  | some z =>
    simp only
    by_cases hl : z.lives = true
    · have := kids_len h hz hl
      rw [if_pos hl, if_pos hl, idx_nd h.dm hz, Option.bind_some]
      unfold slices_Clone__int_int_
      rw [app_ok (by rw [bnd]; simp; omega)]; rfl
    · rw [if_neg hl, if_neg hl]
theorem count_ok {d : dom_Dom} (h : WF d) (n : Nat) : dom_Dom_Count n d = some ((d.l.length : Int) - d.freed.length) := by
  have hfl : d.freed.length ≤ d.l.length := nodup_le _ _ h.freedN (fun x hx => ⟨by have := h.freedR x hx; omega, (h.freedR x hx).2⟩)
  have := h.len
  unfold dom_Dom_Count
  rw [w64 (by omega) (by omega)]
end Pr
end Go.Ev


namespace Go.Ev
namespace Pr
set_option linter.unusedVariables false
set_option linter.unusedSimpArgs false

/-! ### A new dom; new nodes -/
def rootN : dom_node := dom_node.mk true [114, 111, 111, 116] [] [] [] [] 0
def dom0 : dom_Dom := dom_Dom.mk [rootN] []
theorem new_eq (n : Nat) : dom_New n = some (some dom0) := by
  unfold dom_New dom_Dom_Element dom_Dom_put
  rfl
theorem nd_dom0 (i : Int) : nd dom0 i = if i = 1 then some rootN else none := by
  unfold nd dom0
  by_cases h : 1 ≤ i
  · rw [if_pos h]
    by_cases h1 : i = 1
    · subst h1; rfl
    · rw [if_neg h1, List.getElem?_eq_none (by simp; omega)]
  · rw [if_neg h, if_neg (by omega)]
theorem dom0_wf : WF dom0 := by
  have one : ∀ i z, nd dom0 i = some z → i = 1 ∧ z = rootN := fun i z h => by
    rw [nd_dom0] at h
    split at h
    · exact ⟨‹_›, (Option.some.inj h).symm⟩
    · cases h
  refine ⟨by decide, ⟨rootN, rfl, rfl, rfl, by simp [rootN]⟩, fun i hi => by simp [dom0] at hi, by simp [dom0], fun i z h => ?_, fun i z h _ => ?_, fun i z k h _ hk => ?_, fun k y h _ hp => ?_, fun i h => ?_, fun i z h => ?_⟩
  · obtain ⟨rfl, rfl⟩ := one i z h; simp [dom0, rootN]
  · obtain ⟨rfl, rfl⟩ := one i z h; simp [rootN]
  · obtain ⟨rfl, rfl⟩ := one i z h; simp [rootN] at hk
  · obtain ⟨rfl, rfl⟩ := one k y h; simp [rootN] at hp
  · obtain ⟨z, hz, hl⟩ := lvb_some h
    obtain ⟨rfl, rfl⟩ := one i z hz
    exact ⟨[1], .top hz rfl rfl⟩
  · obtain ⟨rfl, rfl⟩ := one i z h; simp [rootN]
theorem element_ok {d : dom_Dom} (h : WF d) (hl : d.l.length < 5000) (n : Nat) {tag key : Str} (ht : tag ≠ []) : ∃ d', dom_Dom_Element n d tag key = some (nextId d, d') ∧ WF d' ∧ New d d' (nextId d) (dom_node.mk true tag key [] [] [] 0) ∧ d'.freed = d.freed.dropLast ∧ d'.l.length = (if d.freed = [] then d.l.length + 1 else d.l.length) := by
  obtain ⟨d', h1, h2⟩ := put_ok h hl n (dom_node0.mk false tag key [] [] 0) rfl (by simp)
  refine ⟨d', ?_, h2⟩
  unfold dom_Dom_Element
  rw [if_neg (by simpa using ht), h1]; rfl
/-! ### What is loose -/
def looseB (d : dom_Dom) (i : Int) : Bool := match nd d i with | some z => (z.lives && (z.parent == 0)) && (i != 1) | none => false
def nums (n : Nat) : List Int := (List.range n).map fun (i : Nat) => (i : Int) + 1
theorem nums_mem {n : Nat} {i : Int} : i ∈ nums n ↔ 1 ≤ i ∧ i ≤ n := by
  unfold nums
  rw [List.mem_map]
  constructor
  · rintro ⟨a, h1, rfl⟩; have := List.mem_range.1 h1; omega
  · rintro ⟨h1, h2⟩; exact ⟨(i - 1).toNat, List.mem_range.2 (by omega), by omega⟩
theorem nums_succ (n : Nat) : nums (n + 1) = nums n ++ [(n : Int) + 1] := by unfold nums; rw [List.range_succ, List.map_append]; rfl
def looseL (d : dom_Dom) : List Int := (nums d.l.length).filter (looseB d)
theorem loose_loop {d : dom_Dom} (hl : d.l.length ≤ 5000) : ∀ (m j : Nat) (f : Nat), j + m = d.l.length → m < f → dom_Dom_Loose_l18 d f ((nums j).filter (looseB d)) (j : Int) = some (looseL d)
  | 0, j, f + 1, hj, hf => by
    rw [dom_Dom_Loose_l18, if_neg (by rw [decide_eq_true_eq]; omega)]
    unfold looseL; rw [show d.l.length = j by omega]
  | m + 1, j, f + 1, hj, hf => by
    have hlt : j < d.l.length := by omega
    rw [dom_Dom_Loose_l18, if_pos (by rw [decide_eq_true_eq]; omega)]
    have hz : d.l[j]? = some d.l[j] := List.getElem?_eq_getElem hlt
    have hn : nd d ((j : Int) + 1) = some d.l[j] := by
      unfold nd; rw [if_pos (by omega), show ((j : Int) + 1 - 1).toNat = j by omega]; exact hz
    rw [idx_nat, hz, Option.bind_some, w64 (by omega) (by omega)]
    have hb : looseB d ((j : Int) + 1) = ((d.l[j].lives && (d.l[j].parent == 0)) && ((j : Int) + 1 != 1)) := by unfold looseB; rw [hn]
    rw [← hb]
    have hlen : ((nums j).filter (looseB d)).length ≤ 5000 := Nat.le_trans (List.length_filter_le _ _) (by unfold nums; simp; omega)
    have ih := loose_loop hl m (j + 1) f (by omega) (by omega)
    rw [nums_succ, List.filter_append] at ih
    have ecast : (((j + 1 : Nat)) : Int) = (j : Int) + 1 := by omega
    rw [ecast] at ih
    by_cases hq : looseB d ((j : Int) + 1) = true
    · rw [if_pos hq, app_ok (by rw [bnd]; simp only [List.length_singleton]; omega), Option.bind_some]
      unfold dom_Dom_Loose_j24
      rw [w64 (by omega) (by omega), ← ih]
      simp [hq]
    · rw [if_neg hq]
      unfold dom_Dom_Loose_j24
      rw [w64 (by omega) (by omega), ← ih]
      simp [hq]
theorem loose_ok {d : dom_Dom} (h : WF d) {n : Nat} (hn : 5001 ≤ n) : dom_Dom_Loose n d = some (looseL d) := by
  unfold dom_Dom_Loose
  have := loose_loop h.len d.l.length 0 n (by omega) (by have := h.len; omega)
  simpa [nums] using this
theorem looseL_mem {d : dom_Dom} {i : Int} : i ∈ looseL d ↔ ∃ z, nd d i = some z ∧ z.lives = true ∧ z.parent = 0 ∧ i ≠ 1 := by
  unfold looseL
  rw [List.mem_filter, nums_mem]
  constructor
  · rintro ⟨h1, h2⟩
    unfold looseB at h2
    split at h2
    · rename_i z hz
      simp only [Bool.and_eq_true, beq_iff_eq, bne_iff_ne] at h2
      exact ⟨z, hz, h2.1.1, h2.1.2, h2.2⟩
    · cases h2
  · rintro ⟨z, h1, h2, h3, h4⟩
    refine ⟨nd_range h1, ?_⟩
    unfold looseB; rw [h1]
    simp [h2, h3, h4]
end Pr
end Go.Ev


namespace Go.Ev
namespace Pr
set_option linter.unusedVariables false
set_option linter.unusedSimpArgs false
theorem within_ok (n : Nat) (a lo hi : Int) (h1 : lo ≤ hi) (h2 : -1000000000000 ≤ lo) (h3 : hi ≤ 1000000000000000) : ∃ r, porticobook_Within n a lo hi = some r ∧ lo ≤ r ∧ r ≤ hi := by
  unfold porticobook_Within
  rw [w64 (n := hi - lo) (by omega) (by omega), w64 (by omega) (by omega), remI_ok (by omega), Option.bind_some]
  have k1 := Int.tmod_lt_of_pos a (show 0 < hi - lo + 1 by omega)
  have k2 := Int.lt_tmod_of_pos a (show 0 < hi - lo + 1 by omega)
  unfold porticobook_Within_j8
  by_cases hz : a.tmod (hi - lo + 1) < 0
  · rw [if_pos (by simpa using hz)]
    rw [w64 (n := a.tmod (hi - lo + 1) + hi) (by omega) (by omega), w64 (n := a.tmod (hi - lo + 1) + hi - lo) (by omega) (by omega), w64 (n := a.tmod (hi - lo + 1) + hi - lo + 1) (by omega) (by omega), w64 (by omega) (by omega)]
    exact ⟨_, rfl, by omega, by omega⟩
  · rw [if_neg (by simpa using hz), w64 (by omega) (by omega)]
    exact ⟨_, rfl, by omega, by omega⟩
theorem sint_loop (a b : List Int) : ∀ (rest done rest2 : List Int) (f : Nat), a = done ++ rest → b = done ++ rest2 → rest.length = rest2.length → rest.length < f → a.length < 1000000 → porticobook_Same_int_l12 a b f (done.length : Int) = some (rest == rest2)
  | [], done, [], f + 1, h, h2, _, hf, hl => by rw [porticobook_Same_int_l12, if_neg (by subst h; simp)]; rfl
  | z :: rest, done, y :: rest2, f + 1, h, h2, he, hf, hl => by
    have hd : done.length < a.length := by subst h; simp
    rw [porticobook_Same_int_l12, if_pos (by rw [decide_eq_true_eq]; omega), idx_mid h, idx_mid h2, Option.bind_some, Option.bind_some]
    by_cases hq : z = y
    · subst hq
      rw [if_neg (by simp), w64 (by omega) (by omega)]
      have := sint_loop a b rest (done ++ [z]) rest2 f (by simp [h]) (by simp [h2]) (by simpa using he) (by simp at hf; omega) hl
      simp only [List.length_append, List.length_cons, List.length_nil, Nat.zero_add, Int.natCast_add, Int.cast_ofNat_Int] at this
      rw [this]; simp
    · rw [if_pos (by simp [hq])]; simp [hq]
theorem sint_ok (n : Nat) (a b : List Int) (h : a.length < n) (hl : a.length < 1000000) : porticobook_Same_int n a b = some (a == b) := by
  unfold porticobook_Same_int
  by_cases he : a.length = b.length
  · rw [if_neg (by simp [he])]
    exact sint_loop a b a [] b n rfl rfl he h hl
  · rw [if_pos (by simp; omega)]
    have : (a == b) = false := by rw [beq_eq_false_iff_ne]; intro q; exact he (by rw [q])
    rw [this]
end Pr
end Go.Ev


import Derived.Test.YtbjneeknddapfaaPartD
import Derived.Test.YtbjneeknddapfaaProg
import Derived.WalkKit
import Derived.ProofKit
namespace Go.Ev
namespace Pr
set_option linter.unusedVariables false
set_option linter.unusedSimpArgs false
open Go.Proofs
noncomputable def cfg : Cfg := { P := Try.prog, good := fun _ => true, rowT := fun _ => false, prim := fun _ _ _ => none, objT := fun _ => none, hasPrim := fun _ => false }
noncomputable def cfgR1 : Cfg := { cfg with rowT := fun t => Nat.beq t 31 || Nat.beq t 85 }
noncomputable def cfgR2 : Cfg := { cfg with rowT := fun t => Nat.beq t 31 }
theorem fo90_0 : fieldOf cfg.P 90 0 = some (0, 4) := by kernel_rfl
theorem nz4 : Nat.beq (szOf cfg.P 4) 0 = false := by kernel_rfl
theorem sz4 : szOf cfg.P 4 = 1 := by kernel_rfl
theorem as4 : (aggO cfg.P 4).isSome = true := by kernel_rfl
theorem fo87_1 : fieldOf cfg.P 87 1 = some (1, 31) := by kernel_rfl
theorem nz31 : Nat.beq (szOf cfg.P 31) 0 = false := by kernel_rfl
theorem ag31 : aggO cfg.P 31 = some false := by kernel_rfl
theorem es31 : (elemSl cfg.P 31).isSome = true := by kernel_rfl
theorem hmix : cfg.P.follows .mixedOrders = true := by kernel_rfl
theorem fo87_0 : fieldOf cfg.P 87 0 = some (0, 85) := by kernel_rfl
theorem nz85 : Nat.beq (szOf cfg.P 85) 0 = false := by kernel_rfl
theorem ag85 : aggO cfg.P 85 = some false := by kernel_rfl
theorem ag90 : aggO cfg.P 90 = some true := by kernel_rfl
theorem sz90 : szOf cfg.P 90 = 7 := by kernel_rfl
theorem rw85R1 : cfgR1.rowT 85 = true := by kernel_rfl
theorem el85 : elemSl cfg.P 85 = some 90 := by kernel_rfl
theorem as90 : (aggO cfg.P 90).isSome = true := by kernel_rfl
theorem zo90 : zeroOf cfg.P 90 = some (.agg [.bool false, .str [], .str [], .str [], .nils, .nils, .int .i64 0]) := by kernel_rfl
theorem os85R1 : okSrc cfgR1 85 = true := by kernel_rfl
theorem nb90 : bytesOf cfg.P 90 = 112 := by kernel_rfl
theorem zk90R1 : zeroOk cfgR1 90 = true := by kernel_rfl
theorem sz85 : szOf cfg.P 85 = 1 := by kernel_rfl
theorem as85 : (aggO cfg.P 85).isSome = true := by kernel_rfl
theorem es85 : (elemSl cfg.P 85).isSome = true := by kernel_rfl
theorem el31 : elemSl cfg.P 31 = some 3 := by kernel_rfl
theorem as3 : (aggO cfg.P 3).isSome = true := by kernel_rfl
theorem sz3 : szOf cfg.P 3 = 1 := by kernel_rfl
theorem ag3 : aggO cfg.P 3 = some false := by kernel_rfl
theorem ue31 : (cfg.P.underlying 3).isSome = true := by kernel_rfl
theorem sz31 : szOf cfg.P 31 = 1 := by kernel_rfl
theorem as31 : (aggO cfg.P 31).isSome = true := by kernel_rfl
theorem nm58 : (Try.f58.name == "runtime.NumGoroutine") = false := by kernel_rfl
theorem nm28 : (Try.f28.name == "runtime.NumGoroutine") = false := by kernel_rfl
theorem nm13 : (Try.f13.name == "runtime.NumGoroutine") = false := by kernel_rfl
theorem zo87 : zeroOf cfg.P 87 = some (.agg [.nils, .nils]) := by kernel_rfl
theorem nm12 : (Try.f12.name == "runtime.NumGoroutine") = false := by kernel_rfl
theorem ag4 : aggO cfg.P 4 = some false := by kernel_rfl
theorem nm59 : (Try.f59.name == "runtime.NumGoroutine") = false := by kernel_rfl
theorem nm84 : (Try.f84.name == "runtime.NumGoroutine") = false := by kernel_rfl
theorem os31 : okSrc cfg 31 = true := by kernel_rfl
theorem zo3 : zeroOf cfg.P 3 = some (.int .i64 0) := by kernel_rfl
theorem nm85 : (Try.f85.name == "runtime.NumGoroutine") = false := by kernel_rfl
theorem fo90_6 : fieldOf cfg.P 90 6 = some (6, 3) := by kernel_rfl
theorem nz3 : Nat.beq (szOf cfg.P 3) 0 = false := by kernel_rfl
theorem fo90_5 : fieldOf cfg.P 90 5 = some (5, 31) := by kernel_rfl
theorem nm61 : (Try.f61.name == "runtime.NumGoroutine") = false := by kernel_rfl
theorem up91 : cfg.P.underlying 91 = some (.pointer 90) := by kernel_rfl
theorem nm15 : (Try.f15.name == "runtime.NumGoroutine") = false := by kernel_rfl
theorem ob90 : cfg.objT 90 = none := by kernel_rfl
theorem rw31 : cfg.rowT 31 = false := by kernel_rfl
theorem nb3 : bytesOf cfg.P 3 = 8 := by kernel_rfl
theorem zk3 : zeroOk cfg 3 = true := by kernel_rfl
theorem nm18 : (Try.f18.name == "runtime.NumGoroutine") = false := by kernel_rfl
theorem nm20 : (Try.f20.name == "runtime.NumGoroutine") = false := by kernel_rfl
theorem nm22 : (Try.f22.name == "runtime.NumGoroutine") = false := by kernel_rfl
theorem nm24 : (Try.f24.name == "runtime.NumGoroutine") = false := by kernel_rfl
theorem nm60 : (Try.f60.name == "runtime.NumGoroutine") = false := by kernel_rfl
theorem fo90_1 : fieldOf cfg.P 90 1 = some (1, 9) := by kernel_rfl
theorem nz9 : Nat.beq (szOf cfg.P 9) 0 = false := by kernel_rfl
theorem ag9 : aggO cfg.P 9 = some false := by kernel_rfl
theorem rw31R2 : cfgR2.rowT 31 = true := by kernel_rfl
theorem nm14 : (Try.f14.name == "runtime.NumGoroutine") = false := by kernel_rfl
theorem nm66 : (Try.f66.name == "runtime.NumGoroutine") = false := by kernel_rfl
theorem us36s : cfg.P.underlying 36 = some (.slice 54) := by kernel_rfl
theorem sz54 : szOf cfg.P 54 = 2 := by kernel_rfl
theorem rw36 : cfg.rowT 36 = false := by kernel_rfl
theorem el36 : elemSl cfg.P 36 = some 54 := by kernel_rfl
theorem ag54 : aggO cfg.P 54 = some true := by kernel_rfl
theorem os36 : okSrc cfg 36 = true := by kernel_rfl
theorem nb54 : bytesOf cfg.P 54 = 32 := by kernel_rfl
theorem zk54 : zeroOk cfg 54 = true := by kernel_rfl
theorem fo90_4 : fieldOf cfg.P 90 4 = some (4, 36) := by kernel_rfl
theorem nz36 : Nat.beq (szOf cfg.P 36) 0 = false := by kernel_rfl
theorem sz36 : szOf cfg.P 36 = 1 := by kernel_rfl
theorem as36 : (aggO cfg.P 36).isSome = true := by kernel_rfl
theorem nm29 : (Try.f29.name == "runtime.NumGoroutine") = false := by kernel_rfl
theorem fo39_0 : fieldOf cfg.P 39 0 = some (0, 9) := by kernel_rfl
theorem fo39_2 : fieldOf cfg.P 39 2 = some (2, 9) := by kernel_rfl
theorem fo39_1 : fieldOf cfg.P 39 1 = some (1, 9) := by kernel_rfl
theorem fo39_3 : fieldOf cfg.P 39 3 = some (3, 36) := by kernel_rfl
theorem ag36 : aggO cfg.P 36 = some false := by kernel_rfl
theorem fo39_4 : fieldOf cfg.P 39 4 = some (4, 37) := by kernel_rfl
theorem nz37 : Nat.beq (szOf cfg.P 37) 0 = false := by kernel_rfl
theorem ag37 : aggO cfg.P 37 = some false := by kernel_rfl
theorem es37 : (elemSl cfg.P 37).isSome = true := by kernel_rfl
theorem el37 : elemSl cfg.P 37 = some 39 := by kernel_rfl
theorem as39 : (aggO cfg.P 39).isSome = true := by kernel_rfl
theorem sz39 : szOf cfg.P 39 = 5 := by kernel_rfl
theorem ag39 : aggO cfg.P 39 = some true := by kernel_rfl
theorem ob39 : cfg.objT 39 = none := by kernel_rfl
theorem zo39 : zeroOf cfg.P 39 = some (.agg [.str [], .str [], .str [], .nils, .nils]) := by kernel_rfl
theorem nm39 : (Try.f39.name == "runtime.NumGoroutine") = false := by kernel_rfl
theorem nm64 : (Try.f64.name == "runtime.NumGoroutine") = false := by kernel_rfl
theorem us31s : cfg.P.underlying 31 = some (.slice 3) := by kernel_rfl
theorem bs31xR2 : asRow cfgR2 31 0 = false := by kernel_rfl
theorem os31R2 : okSrc cfgR2 31 = true := by kernel_rfl
theorem zk3R2 : zeroOk cfgR2 3 = true := by kernel_rfl
theorem nm19 : (Try.f19.name == "runtime.NumGoroutine") = false := by kernel_rfl
theorem nm17 : (Try.f17.name == "runtime.NumGoroutine") = false := by kernel_rfl
theorem fo90_2 : fieldOf cfg.P 90 2 = some (2, 9) := by kernel_rfl
theorem fo90_3 : fieldOf cfg.P 90 3 = some (3, 9) := by kernel_rfl
theorem rw37 : cfg.rowT 37 = false := by kernel_rfl
theorem os37 : okSrc cfg 37 = true := by kernel_rfl
theorem nb39 : bytesOf cfg.P 39 = 96 := by kernel_rfl
theorem zk39 : zeroOk cfg 39 = true := by kernel_rfl
theorem sz37 : szOf cfg.P 37 = 1 := by kernel_rfl
theorem as37 : (aggO cfg.P 37).isSome = true := by kernel_rfl
theorem nm65 : (Try.f65.name == "runtime.NumGoroutine") = false := by kernel_rfl
theorem nm21 : (Try.f21.name == "runtime.NumGoroutine") = false := by kernel_rfl
theorem nm53 : (Try.f53.name == "runtime.NumGoroutine") = false := by kernel_rfl
theorem nm52 : (Try.f52.name == "runtime.NumGoroutine") = false := by kernel_rfl
theorem nm54 : (Try.f54.name == "runtime.NumGoroutine") = false := by kernel_rfl
theorem uk3 : cfg.P.underlying 3 = some (.int .i64) := by kernel_rfl
theorem up23 : cfg.P.underlying 23 = some (.pointer 87) := by kernel_rfl
theorem kt77 : keyT cfg 77 = some (3, 4) := by kernel_rfl
theorem zo4 : zeroOf cfg.P 4 = some (.bool false) := by kernel_rfl
theorem nm10 : (Try.f10.name == "runtime.NumGoroutine") = false := by kernel_rfl
theorem place_struct90 : oper.P_place cfg 90 = some (placeL [(0, 1), (1, 1), (2, 1), (3, 1), (4, 1), (5, 1), (6, 1)]) := placeL_of (by kernel_rfl)
theorem place_struct87 : oper.P_place cfg 87 = some (placeL [(0, 1), (1, 1)]) := placeL_of (by kernel_rfl)
theorem place_struct39 : oper.P_place cfg 39 = some (placeL [(0, 1), (1, 1), (2, 1), (3, 1), (4, 1)]) := placeL_of (by kernel_rfl)
/-- What is asked of the world and of the library. -/
structure PrOk (R : ObjR) : Prop where
  obj : ObjOkC R cfg
  porticolaw20_OutletRuns_ok : ∀ (n : Nat) (r : Bool), porticolaw20_OutletRuns n = some r → SpecC R cfg.P 55 [] (.d (.bool r))
  insp : PrimOk R cfg.P 62 insPrim
section
variable {R : ObjR} (E : PrOk R)
include E
theorem objR1 : ObjOkC R cfgR1 := ⟨E.obj.toObjOk, E.obj.new⟩
theorem objR2 : ObjOkC R cfgR2 := ⟨E.obj.toObjOk, E.obj.new⟩
set_option maxRecDepth 20000 in
set_option maxHeartbeats 4000000 in
theorem dom_Dom_put_ok (n : Nat) (a2 : dom_Dom) (a6 : dom_node0) (r : (Int × dom_Dom)) (h : dom_Dom_put n a2 a6 = some r) (b1 : Nat) (v3 : AV) (ws4 : List (List AV)) (w5 : AV) : SpecM R cfg.P 58 [.ptr b1 0 0, .d (encdom_node0 a6)] [.box b1 [v3, w5], nestA encdom_node dom_node.kids 7 5 v3 ws4 a2.l none, slkA w5 a2.freed] (fun v l => v = .d (.int .i64 r.1) ∧ ∃ dv0 dws0 dw0, l = [.box b1 [dv0, dw0], nestA encdom_node dom_node.kids 7 5 dv0 dws0 r.2.l none, slkA dw0 r.2.freed]) := by
  unfold dom_Dom_put at h
  refine SpecM.of_wp (C := cfgR1) Try.func58 rfl nm58 rfl (fun B0 S0 H0 => ?_)
  replace H0 : Has B0 S0 [.box b1 [v3, w5], nestA encdom_node dom_node.kids 7 5 v3 ws4 a2.l none, slkA w5 a2.freed] := H0
  refine WpC.seq ?_
  refine WpC.region (objR1 E) rfl ?_
  refine wpO.box H0 rfl rfl rfl (dom_node0.cellsA _) rfl (fun b7 S8 H9 => ?_)
  refine wpO.val rfl (oper_assign rfl) rfl ?_
  refine wpO.nil ?_
  refine WpC.seq ?_
  refine WpC.region (objR1 E) rfl ?_
  refine wpO.val rfl (oper_fieldAddr rfl fo90_0 nz4 rfl) rfl ?_
  refine wpO.store H9 (i := 0) rfl rfl rfl rfl rfl rfl sz4 rfl as4 rfl rfl rfl (fun S10 H11 => ?_)
  refine wpO.nil ?_
  refine WpC.seq ?_
  refine WpC.region (objR1 E) rfl ?_
  refine wpO.val rfl (oper_move rfl) rfl ?_
  refine wpO.val rfl (oper_nilCheck rfl) rfl ?_
  refine wpO.val rfl (oper_fieldAddr rfl fo87_1 nz31 rfl) rfl ?_
  refine wpO.val rfl (oper_load H11 (i := 1) rfl rfl (part_one ag31 rfl)) rfl ?_
  refine wpO.val rfl (oper_lenS H11 (i := 3) rfl rfl es31) rfl ?_
  refine wpO.val rfl (oper_bin rfl rfl binD_sub) rfl ?_
  refine wpO.val rfl (oper_assign rfl) rfl ?_
  refine wpO.nil ?_
  refine WpC.seq ?_
  refine WpC.seq ?_
  refine WpC.region (objR1 E) rfl ?_
  refine wpO.val rfl (oper_move rfl) rfl ?_
  refine wpO.val rfl (oper_bin rfl rfl binD_lss) rfl ?_
  refine wpO.nil ?_
  refine WpC.cond rfl (fun hb12 => ?_) (fun hb12 => ?_)
  ·
    replace h := if_t hb12 h
    refine WpC.seq ?_
    obtain ⟨z17, hzz17, h⟩ := bind_some h
    refine WpC.drawP (objR1 E) hmix [[(0, none)], [(0, none)], [(17, some 1)], [(18, some 2)], [(19, some 3)], [(3, none)], [(21, some 5)], [(20, some 4), (22, some 6)], [(16, some 0)], [(24, some 8)], [(23, some 7), (25, some 9)]] [(0, none)] (by kernel_rfl) [6, 7, 10] (by decide) [some (.ptr b1 0 0), some (.ptr b1 0 0), some (.ptr b1 0 0), some (.ptr b1 0 0), some v3, some (.d (encdom_node0 (dom_node0.mk true a6.tag a6.key a6.text a6.attrs a6.parent))), none, none, none, none, none] ?_
    refine ⟨[0, 1, 2, 3, 4, 5], by kernel_rfl, ?_, _, _, rfl, rfl, .step ?_⟩
    ·
      refine .cons rfl rfl rfl (.step ?_) ?_
      ·
        refine wpO.val rfl (oper_move rfl) rfl ?_
        exact wpO.nil ⟨_, _, rfl, fun _ ht => by cases ht; exact ⟨rfl, .refl _⟩⟩
      refine .cons rfl rfl rfl (.step ?_) ?_
      ·
        refine wpO.val rfl (oper_move rfl) rfl ?_
        exact wpO.nil ⟨_, _, rfl, fun _ ht => by cases ht; exact ⟨rfl, .refl _⟩⟩
      refine .cons rfl rfl rfl (.step ?_) ?_
      ·
        refine wpO.val rfl (oper_nilCheck rfl) rfl ?_
        exact wpO.nil ⟨_, _, rfl, fun _ ht => by cases ht; exact ⟨rfl, .refl _⟩⟩
      refine .cons rfl rfl rfl (.step ?_) ?_
      ·
        refine wpO.val rfl (oper_fieldAddr rfl fo87_0 nz85 rfl) rfl ?_
        exact wpO.nil ⟨_, _, rfl, fun _ ht => by cases ht; exact ⟨rfl, .refl _⟩⟩
      refine .cons rfl rfl rfl (.step ?_) ?_
      ·
        refine wpO.val rfl (oper_load H11 (i := 1) rfl rfl (part_one ag85 rfl)) rfl ?_
        exact wpO.nil ⟨_, _, rfl, fun _ ht => by cases ht; exact ⟨rfl, .refl _⟩⟩
      refine .cons rfl rfl rfl (.step ?_) ?_
      ·
        refine wpO.val rfl (oper_load H11 (i := 0) rfl rfl (part_agg ag90 sz90 rfl)) rfl ?_
        refine wpO.less (Less.agg' (d := encdom_node0 (dom_node0.mk true a6.tag a6.key a6.text a6.attrs a6.parent)) (CellsC.eq rfl (CellsC.eq rfl (CellsC.eq rfl (CellsC.eq rfl (CellsC.eq rfl (CellsC.eq rfl (CellsC.eq rfl .nil))))))) ((dom_node0.eq _).trans rfl)) ?_
        exact wpO.nil ⟨_, _, rfl, fun _ ht => by cases ht; exact ⟨rfl, .refl _⟩⟩
      exact .nil
    refine wpO.rawBuild (vs := [(.d (encdom_node0 (dom_node0.mk true a6.tag a6.key a6.text a6.attrs a6.parent)))]) (cs := [[(.d (.bool (dom_node0.mk true a6.tag a6.key a6.text a6.attrs a6.parent).lives)), (.d (.str (dom_node0.mk true a6.tag a6.key a6.text a6.attrs a6.parent).tag)), (.d (.str (dom_node0.mk true a6.tag a6.key a6.text a6.attrs a6.parent).key)), (.d (.str (dom_node0.mk true a6.tag a6.key a6.text a6.attrs a6.parent).text)), (.d (.sl (((dom_node0.mk true a6.tag a6.key a6.text a6.attrs a6.parent).attrs).map encAttr) false)), (.d .nils), (.d (.int .i64 (dom_node0.mk true a6.tag a6.key a6.text a6.attrs a6.parent).parent))]]) H11 rfl rw85R1 el85 as90 zo90 sz90 rfl (by decide) (.cons (cellsP_d (dom_node0.cellsA _)) rfl .nil) rfl rfl rfl (fun v26 S27 H28 => ?_)
    have H29 : Has B0 S27 [rawA 7 1 v26 [(.d (.bool (dom_node0.mk true a6.tag a6.key a6.text a6.attrs a6.parent).lives)), (.d (.str (dom_node0.mk true a6.tag a6.key a6.text a6.attrs a6.parent).tag)), (.d (.str (dom_node0.mk true a6.tag a6.key a6.text a6.attrs a6.parent).key)), (.d (.str (dom_node0.mk true a6.tag a6.key a6.text a6.attrs a6.parent).text)), (.d (.sl (((dom_node0.mk true a6.tag a6.key a6.text a6.attrs a6.parent).attrs).map encAttr) false)), (.d .nils), (.d (.int .i64 (dom_node0.mk true a6.tag a6.key a6.text a6.attrs a6.parent).parent))], .box b7 [(.d (.bool true)), (.d (.str a6.tag)), (.d (.str a6.key)), (.d (.str a6.text)), (.d (.sl ((a6.attrs).map encAttr) false)), (.d .nils), (.d (.int .i64 a6.parent))], .box b1 [v3, w5], nestA encdom_node dom_node.kids 7 5 v3 ws4 a2.l none, slkA w5 a2.freed] := H28.sel [0, 1, 2, 3, 4] (by decide) rfl
    refine wpO.nil ⟨_, _, _, rfl, (fun _ ht => by cases ht; rfl), [some (.ptr b1 0 0), some (.ptr b1 0 0), some (.ptr b1 0 0), some (.ptr b1 0 0), some v3, some (.d (encdom_node0 (dom_node0.mk true a6.tag a6.key a6.text a6.attrs a6.parent))), some v26, none, none, none, none], (.old (.refl _) (.old (.refl _) (.old (.refl _) (.old (.refl _) (.old (.refl _) (.old (.refl _) (.new (.new (.new (.new (.new .nil))))))))))), (fun _ ht => by cases ht; exact ⟨_, rfl, .refl _⟩), ?_⟩
    refine ⟨[0, 1, 2, 3, 4], by kernel_rfl, ?_, _, _, rfl, rfl, .step ?_⟩
    ·
      refine .cons rfl rfl rfl (.step ?_) ?_
      ·
        refine wpO.val rfl (oper_move rfl) rfl ?_
        exact wpO.nil ⟨_, _, rfl, fun _ ht => by cases ht; exact ⟨rfl, .refl _⟩⟩
      refine .cons rfl rfl rfl (.step ?_) ?_
      ·
        refine wpO.val rfl (oper_move rfl) rfl ?_
        exact wpO.nil ⟨_, _, rfl, fun _ ht => by cases ht; exact ⟨rfl, .refl _⟩⟩
      refine .cons rfl rfl rfl (.step ?_) ?_
      ·
        refine wpO.val rfl (oper_nilCheck rfl) rfl ?_
        exact wpO.nil ⟨_, _, rfl, fun _ ht => by cases ht; exact ⟨rfl, .refl _⟩⟩
      refine .cons rfl rfl rfl (.step ?_) ?_
      ·
        refine wpO.val rfl (oper_fieldAddr rfl fo87_0 nz85 rfl) rfl ?_
        exact wpO.nil ⟨_, _, rfl, fun _ ht => by cases ht; exact ⟨rfl, .refl _⟩⟩
      refine .cons rfl rfl rfl (.step ?_) ?_
      ·
        refine wpO.val rfl (oper_load H29 (i := 2) rfl rfl (part_one ag85 rfl)) rfl ?_
        exact wpO.nil ⟨_, _, rfl, fun _ ht => by cases ht; exact ⟨rfl, .refl _⟩⟩
      exact .nil
    have H30 : Has B0 S27 ([rawA 7 1 v26 [(.d (.bool (dom_node0.mk true a6.tag a6.key a6.text a6.attrs a6.parent).lives)), (.d (.str (dom_node0.mk true a6.tag a6.key a6.text a6.attrs a6.parent).tag)), (.d (.str (dom_node0.mk true a6.tag a6.key a6.text a6.attrs a6.parent).key)), (.d (.str (dom_node0.mk true a6.tag a6.key a6.text a6.attrs a6.parent).text)), (.d (.sl (((dom_node0.mk true a6.tag a6.key a6.text a6.attrs a6.parent).attrs).map encAttr) false)), (.d .nils), (.d (.int .i64 (dom_node0.mk true a6.tag a6.key a6.text a6.attrs a6.parent).parent))], nestA encdom_node dom_node.kids 7 5 v3 ws4 a2.l none] ++ [.box b7 [(.d (.bool true)), (.d (.str a6.tag)), (.d (.str a6.key)), (.d (.str a6.text)), (.d (.sl ((a6.attrs).map encAttr) false)), (.d .nils), (.d (.int .i64 a6.parent))], .box b1 [v3, w5], slkA w5 a2.freed]) := H29.sel [0, 3, 1, 2, 4] (by decide) rfl
    replace H30 : Has B0 S27 [rawA 7 1 v26 [(.d (.bool (dom_node0.mk true a6.tag a6.key a6.text a6.attrs a6.parent).lives)), (.d (.str (dom_node0.mk true a6.tag a6.key a6.text a6.attrs a6.parent).tag)), (.d (.str (dom_node0.mk true a6.tag a6.key a6.text a6.attrs a6.parent).key)), (.d (.str (dom_node0.mk true a6.tag a6.key a6.text a6.attrs a6.parent).text)), (.d (.sl (((dom_node0.mk true a6.tag a6.key a6.text a6.attrs a6.parent).attrs).map encAttr) false)), (.d .nils), (.d (.int .i64 (dom_node0.mk true a6.tag a6.key a6.text a6.attrs a6.parent).parent))], nestA encdom_node dom_node.kids 7 5 v3 ws4 a2.l none, .box b7 [(.d (.bool true)), (.d (.str a6.tag)), (.d (.str a6.key)), (.d (.str a6.text)), (.d (.sl ((a6.attrs).map encAttr) false)), (.d .nils), (.d (.int .i64 a6.parent))], .box b1 [v3, w5], slkA w5 a2.freed] := H30
    refine wpO.nestAppend (z := (dom_node.mk (dom_node0.mk true a6.tag a6.key a6.text a6.attrs a6.parent).lives (dom_node0.mk true a6.tag a6.key a6.text a6.attrs a6.parent).tag (dom_node0.mk true a6.tag a6.key a6.text a6.attrs a6.parent).key (dom_node0.mk true a6.tag a6.key a6.text a6.attrs a6.parent).text (dom_node0.mk true a6.tag a6.key a6.text a6.attrs a6.parent).attrs [] (dom_node0.mk true a6.tag a6.key a6.text a6.attrs a6.parent).parent)) H30 rfl rfl rfl rw85R1 os85R1 el85 sz90 hzz17 nb90 rfl zk90R1 ⟨rfl, rfl, rfl, (.cons (.refl _) (.cons (.refl _) (.cons (.refl _) (.cons (.refl _) (.cons (.refl _) (.cons (Less.any _) (.cons (.refl _) .nil)))))))⟩ rfl rfl rfl (fun v31 ws32 S33 H34 => ?_)
    have H35 : Has B0 S33 [.box b7 [(.d (.bool true)), (.d (.str a6.tag)), (.d (.str a6.key)), (.d (.str a6.text)), (.d (.sl ((a6.attrs).map encAttr) false)), (.d .nils), (.d (.int .i64 a6.parent))], .box b1 [v3, w5], nestA encdom_node dom_node.kids 7 5 v31 ws32 z17 none, slkA w5 a2.freed] := H34.sel [1, 2, 0, 3] (by decide) rfl
    refine wpO.nil ⟨_, _, _, rfl, (fun _ ht => by cases ht; rfl), [some (.ptr b1 0 0), some (.ptr b1 0 0), some (.ptr b1 0 0), some (.ptr b1 0 0), some v3, some (.d (encdom_node0 (dom_node0.mk true a6.tag a6.key a6.text a6.attrs a6.parent))), some v26, some v31, some (.ptr b1 0 0), some (.ptr b1 0 0), none], (.old (.refl _) (.old (.refl _) (.old (.refl _) (.old (.refl _) (.old (.refl _) (.old (.refl _) (.old (.refl _) (.new (.new (.new (.new .nil))))))))))), (fun _ ht => by cases ht; exact ⟨_, rfl, .refl _⟩), ?_⟩
    refine ⟨[0, 8, 9], by kernel_rfl, ?_, _, _, rfl, rfl, .step ?_⟩
    ·
      refine .cons rfl rfl rfl (.step ?_) ?_
      ·
        refine wpO.val rfl (oper_move rfl) rfl ?_
        exact wpO.nil ⟨_, _, rfl, fun _ ht => by cases ht; exact ⟨rfl, .refl _⟩⟩
      refine .cons rfl rfl rfl (.step ?_) ?_
      ·
        refine wpO.val rfl (oper_nilCheck rfl) rfl ?_
        exact wpO.nil ⟨_, _, rfl, fun _ ht => by cases ht; exact ⟨rfl, .refl _⟩⟩
      refine .cons rfl rfl rfl (.step ?_) ?_
      ·
        refine wpO.val rfl (oper_fieldAddr rfl fo87_0 nz85 rfl) rfl ?_
        exact wpO.nil ⟨_, _, rfl, fun _ ht => by cases ht; exact ⟨rfl, .refl _⟩⟩
      exact .nil
    refine wpO.store H35 (i := 1) rfl rfl rfl rfl (nest_plain H35 (i := 2) rfl).2 rfl sz85 (nest_plain H35 (i := 2) rfl).1 as85 rfl rfl rfl (fun S36 H37 => ?_)
    refine wpO.nil ⟨_, .any, _, rfl, (fun _ ht => by cases ht), [some (.ptr b1 0 0), some (.ptr b1 0 0), some (.ptr b1 0 0), some (.ptr b1 0 0), some v3, some (.d (encdom_node0 (dom_node0.mk true a6.tag a6.key a6.text a6.attrs a6.parent))), some v26, some v31, some (.ptr b1 0 0), some (.ptr b1 0 0), some .any], (.old (.refl _) (.old (.refl _) (.old (.refl _) (.old (.refl _) (.old (.refl _) (.old (.refl _) (.old (.refl _) (.old (.refl _) (.old (.refl _) (.old (.refl _) (.new .nil))))))))))), (fun _ ht => by cases ht), ?_⟩
    refine ⟨[], by kernel_rfl, ?_, _, rfl, ?_⟩
    ·
      exact .nil
    refine WpC.seq ?_
    refine WpC.region (objR1 E) rfl ?_
    refine wpO.val rfl (oper_move rfl) rfl ?_
    refine wpO.val rfl (oper_nilCheck rfl) rfl ?_
    refine wpO.val rfl (oper_fieldAddr rfl fo87_0 nz85 rfl) rfl ?_
    refine wpO.val rfl (oper_load H37 (i := 1) rfl rfl (part_one ag85 rfl)) rfl ?_
    refine wpO.val rfl (oper_lenN H37 (i := 2) rfl rfl es85) rfl ?_
    refine wpO.val rfl (oper_assign rfl) rfl ?_
    refine wpO.nil ?_
    have hr := Option.some.inj h
    subst hr
    exact WpC.ret ⟨_, rfl, rfl, _, _, _, .refl _, (.refl _), ⟨rfl, v31, ws32, w5, rfl⟩, H37.sel [1, 2, 3] (by decide) rfl⟩
  ·
    replace h := if_f hb12 h
    refine WpC.skip ?_
    refine WpC.seq ?_
    refine WpC.region (objR1 E) rfl ?_
    refine wpO.val rfl (oper_move rfl) rfl ?_
    refine wpO.val rfl (oper_nilCheck rfl) rfl ?_
    refine wpO.val rfl (oper_fieldAddr rfl fo87_1 nz31 rfl) rfl ?_
    refine wpO.val rfl (oper_load H11 (i := 1) rfl rfl (part_one ag31 rfl)) rfl ?_
    refine wpO.val rfl (oper_move rfl) rfl ?_
    obtain ⟨z38, hzz38, h⟩ := bind_some h
    refine wpO.val rfl (oper_slkIdx H11 (q := 3) rfl hzz38 rfl rfl el31 as3 sz3) rfl ?_
    refine wpO.val rfl (oper_slkLoad H11 (q := 3) rfl hzz38 rfl ag3) rfl ?_
    refine wpO.val rfl (oper_assign rfl) rfl ?_
    refine wpO.nil ?_
    refine WpC.seq ?_
    refine WpC.region (objR1 E) rfl ?_
    refine wpO.val rfl (oper_move rfl) rfl ?_
    refine wpO.val rfl (oper_move rfl) rfl ?_
    refine wpO.val rfl (oper_nilCheck rfl) rfl ?_
    refine wpO.val rfl (oper_fieldAddr rfl fo87_1 nz31 rfl) rfl ?_
    refine wpO.val rfl (oper_load H11 (i := 1) rfl rfl (part_one ag31 rfl)) rfl ?_
    refine wpO.val rfl (oper_move rfl) rfl ?_
    obtain ⟨z39, hzz39, h⟩ := bind_some h
    have H40 : Has B0 S10 ([slkA w5 a2.freed] ++ [.box b7 [(.d (.bool true)), (.d (.str a6.tag)), (.d (.str a6.key)), (.d (.str a6.text)), (.d (.sl ((a6.attrs).map encAttr) false)), (.d .nils), (.d (.int .i64 a6.parent))], .box b1 [v3, w5], nestA encdom_node dom_node.kids 7 5 v3 ws4 a2.l none]) := H11.sel [3, 0, 1, 2] (by decide) rfl
    replace H40 : Has B0 S10 [slkA w5 a2.freed, .box b7 [(.d (.bool true)), (.d (.str a6.tag)), (.d (.str a6.key)), (.d (.str a6.text)), (.d (.sl ((a6.attrs).map encAttr) false)), (.d .nils), (.d (.int .i64 a6.parent))], .box b1 [v3, w5], nestA encdom_node dom_node.kids 7 5 v3 ws4 a2.l none] := H40
    refine wpO.slkCut H40 rfl rfl rfl el31 ue31 sz3 hzz39 rfl (fun w41 H42 => ?_)
    have H43 : Has B0 S10 [.box b7 [(.d (.bool true)), (.d (.str a6.tag)), (.d (.str a6.key)), (.d (.str a6.text)), (.d (.sl ((a6.attrs).map encAttr) false)), (.d .nils), (.d (.int .i64 a6.parent))], .box b1 [v3, w5], nestA encdom_node dom_node.kids 7 5 v3 ws4 a2.l none, slkA w41 z39] := H42.sel [1, 2, 3, 0] (by decide) rfl
    refine wpO.val rfl (oper_nilCheck rfl) rfl ?_
    refine wpO.val rfl (oper_fieldAddr rfl fo87_1 nz31 rfl) rfl ?_
    refine wpO.store H43 (i := 1) rfl rfl rfl rfl (slk_plain H43 (i := 3) rfl).2 rfl sz31 (slk_plain H43 (i := 3) rfl).1 as31 rfl rfl rfl (fun S44 H45 => ?_)
    refine wpO.nil ?_
    refine WpC.seq ?_
    obtain ⟨z46, hzz46, h⟩ := bind_some h
    refine WpC.drawP (objR1 E) hmix [[(0, none)], [(47, some 0)], [(48, some 1)], [(49, some 2)], [(6, none)], [(51, some 4)], [(3, none)], [(50, some 3), (52, some 5)], [(53, some 6), (54, some 7)]] [(6, none)] (by kernel_rfl) [8] (by decide) [some (.ptr b1 0 0), some (.ptr b1 0 0), some (.ptr b1 0 0), some v3, some (.d (.int .i64 z38)), some (.d (.int .i64 (IntKind.wrap .i64 (z38 - 1)))), some (.d (encdom_node0 (dom_node0.mk true a6.tag a6.key a6.text a6.attrs a6.parent))), some (rowPtr v3 (Int.toNat (IntKind.wrap .i64 (z38 - 1))) 0), none] ?_
    refine ⟨[0, 1, 2, 3, 4, 5, 6, 7], by kernel_rfl, ?_, _, _, rfl, rfl, .step ?_⟩
    ·
      refine .cons rfl rfl rfl (.step ?_) ?_
      ·
        refine wpO.val rfl (oper_move rfl) rfl ?_
        exact wpO.nil ⟨_, _, rfl, fun _ ht => by cases ht; exact ⟨rfl, .refl _⟩⟩
      refine .cons rfl rfl rfl (.step ?_) ?_
      ·
        refine wpO.val rfl (oper_nilCheck rfl) rfl ?_
        exact wpO.nil ⟨_, _, rfl, fun _ ht => by cases ht; exact ⟨rfl, .refl _⟩⟩
      refine .cons rfl rfl rfl (.step ?_) ?_
      ·
        refine wpO.val rfl (oper_fieldAddr rfl fo87_0 nz85 rfl) rfl ?_
        exact wpO.nil ⟨_, _, rfl, fun _ ht => by cases ht; exact ⟨rfl, .refl _⟩⟩
      refine .cons rfl rfl rfl (.step ?_) ?_
      ·
        refine wpO.val rfl (oper_load H45 (i := 1) rfl rfl (part_one ag85 rfl)) rfl ?_
        exact wpO.nil ⟨_, _, rfl, fun _ ht => by cases ht; exact ⟨rfl, .refl _⟩⟩
      refine .cons rfl rfl rfl (.step ?_) ?_
      ·
        refine wpO.val rfl (oper_move rfl) rfl ?_
        exact wpO.nil ⟨_, _, rfl, fun _ ht => by cases ht; exact ⟨rfl, .refl _⟩⟩
      refine .cons rfl rfl rfl (.step ?_) ?_
      ·
        refine wpO.val rfl (oper_bin rfl rfl binD_sub) rfl ?_
        exact wpO.nil ⟨_, _, rfl, fun _ ht => by cases ht; exact ⟨rfl, .refl _⟩⟩
      refine .cons rfl rfl rfl (.step ?_) ?_
      ·
        refine wpO.val rfl (oper_load H45 (i := 0) rfl rfl (part_agg ag90 sz90 rfl)) rfl ?_
        refine wpO.less (Less.agg' (d := encdom_node0 (dom_node0.mk true a6.tag a6.key a6.text a6.attrs a6.parent)) (CellsC.eq rfl (CellsC.eq rfl (CellsC.eq rfl (CellsC.eq rfl (CellsC.eq rfl (CellsC.eq rfl (CellsC.eq rfl .nil))))))) ((dom_node0.eq _).trans rfl)) ?_
        exact wpO.nil ⟨_, _, rfl, fun _ ht => by cases ht; exact ⟨rfl, .refl _⟩⟩
      refine .cons rfl rfl rfl (.step ?_) ?_
      ·
        refine wpO.val rfl (oper_nestIdx H45 (i := 2) rfl hzz46 rfl rfl el85 as90 sz90) rfl ?_
        exact wpO.nil ⟨_, _, rfl, fun _ ht => by cases ht; exact ⟨rfl, .refl _⟩⟩
      exact .nil
    have H55 : Has B0 S44 ([nestA encdom_node dom_node.kids 7 5 v3 ws4 a2.l none] ++ [.box b7 [(.d (.bool true)), (.d (.str a6.tag)), (.d (.str a6.key)), (.d (.str a6.text)), (.d (.sl ((a6.attrs).map encAttr) false)), (.d .nils), (.d (.int .i64 a6.parent))], .box b1 [v3, w41], slkA w41 z39]) := H45.sel [2, 0, 1, 3] (by decide) rfl
    replace H55 : Has B0 S44 [nestA encdom_node dom_node.kids 7 5 v3 ws4 a2.l none, .box b7 [(.d (.bool true)), (.d (.str a6.tag)), (.d (.str a6.key)), (.d (.str a6.text)), (.d (.sl ((a6.attrs).map encAttr) false)), (.d .nils), (.d (.int .i64 a6.parent))], .box b1 [v3, w41], slkA w41 z39] := H55
    refine wpO.nestStoreW (z' := (dom_node.mk (dom_node0.mk true a6.tag a6.key a6.text a6.attrs a6.parent).lives (dom_node0.mk true a6.tag a6.key a6.text a6.attrs a6.parent).tag (dom_node0.mk true a6.tag a6.key a6.text a6.attrs a6.parent).key (dom_node0.mk true a6.tag a6.key a6.text a6.attrs a6.parent).text (dom_node0.mk true a6.tag a6.key a6.text a6.attrs a6.parent).attrs [] (dom_node0.mk true a6.tag a6.key a6.text a6.attrs a6.parent).parent)) H55 rfl hzz46 (.inl rfl) rfl rfl (dom_node0.cellsA _) rfl sz90 as90 rfl rfl rfl (.cons (.refl _) (.cons (.refl _) (.cons (.refl _) (.cons (.refl _) (.cons (.refl _) (.cons (Less.any _) (.cons (.refl _) .nil))))))) rfl rfl (fun ws54 S52 H53 => ?_)
    have H56 : Has B0 S52 [.box b7 [(.d (.bool true)), (.d (.str a6.tag)), (.d (.str a6.key)), (.d (.str a6.text)), (.d (.sl ((a6.attrs).map encAttr) false)), (.d .nils), (.d (.int .i64 a6.parent))], .box b1 [v3, w41], nestA encdom_node dom_node.kids 7 5 v3 ws54 (setI a2.l (IntKind.wrap .i64 (z38 - 1)) (dom_node.mk (dom_node0.mk true a6.tag a6.key a6.text a6.attrs a6.parent).lives (dom_node0.mk true a6.tag a6.key a6.text a6.attrs a6.parent).tag (dom_node0.mk true a6.tag a6.key a6.text a6.attrs a6.parent).key (dom_node0.mk true a6.tag a6.key a6.text a6.attrs a6.parent).text (dom_node0.mk true a6.tag a6.key a6.text a6.attrs a6.parent).attrs [] (dom_node0.mk true a6.tag a6.key a6.text a6.attrs a6.parent).parent)) none, slkA w41 z39] := H53.sel [1, 2, 0, 3] (by decide) rfl
    refine wpO.nil ⟨_, .any, _, rfl, (fun _ ht => by cases ht), [some (.ptr b1 0 0), some (.ptr b1 0 0), some (.ptr b1 0 0), some v3, some (.d (.int .i64 z38)), some (.d (.int .i64 (IntKind.wrap .i64 (z38 - 1)))), some (.d (encdom_node0 (dom_node0.mk true a6.tag a6.key a6.text a6.attrs a6.parent))), some (rowPtr v3 (Int.toNat (IntKind.wrap .i64 (z38 - 1))) 0), some .any], (.old (.refl _) (.old (.refl _) (.old (.refl _) (.old (.refl _) (.old (.refl _) (.old (.refl _) (.old (.refl _) (.old (.refl _) (.new .nil))))))))), (fun _ ht => by cases ht), ?_⟩
    refine ⟨[], by kernel_rfl, ?_, _, rfl, ?_⟩
    ·
      exact .nil
    refine WpC.seq ?_
    refine WpC.region (objR1 E) rfl ?_
    refine wpO.val rfl (oper_move rfl) rfl ?_
    refine wpO.val rfl (oper_assign rfl) rfl ?_
    refine wpO.nil ?_
    have hr := Option.some.inj h
    subst hr
    exact WpC.ret ⟨_, rfl, rfl, _, _, _, .refl _, (.refl _), ⟨rfl, v3, ws54, w41, rfl⟩, H56.sel [1, 2, 3] (by decide) rfl⟩
set_option maxRecDepth 20000 in
set_option maxHeartbeats 4000000 in
theorem dom_Dom_Text_ok (n : Nat) (a2 : dom_Dom) (a6 : Str) (r : (Int × dom_Dom)) (h : dom_Dom_Text n a2 a6 = some r) (b1 : Nat) (v3 : AV) (ws4 : List (List AV)) (w5 : AV) : SpecM R cfg.P 28 [.ptr b1 0 0, .d (.str a6)] [.box b1 [v3, w5], nestA encdom_node dom_node.kids 7 5 v3 ws4 a2.l none, slkA w5 a2.freed] (fun v l => v = .d (.int .i64 r.1) ∧ ∃ dv0 dws0 dw0, l = [.box b1 [dv0, dw0], nestA encdom_node dom_node.kids 7 5 dv0 dws0 r.2.l none, slkA dw0 r.2.freed]) := by
  unfold dom_Dom_Text at h
  refine SpecM.of_wp (C := cfg) Try.func28 rfl nm28 rfl (fun B0 S0 H0 => ?_)
  replace H0 : Has B0 S0 [.box b1 [v3, w5], nestA encdom_node dom_node.kids 7 5 v3 ws4 a2.l none, slkA w5 a2.freed] := H0
  refine WpC.seq ?_
  refine WpC.region E.obj rfl ?_
  refine wpO.val rfl (oper_assign rfl) rfl ?_
  refine wpO.nil ?_
  refine WpC.seq ?_
  refine WpC.region E.obj rfl ?_
  refine wpO.val rfl (oper_move rfl) rfl ?_
  refine wpO.val rfl (oper_move rfl) rfl ?_
  refine wpO.val rfl (oper_build (cs := [(.d (.bool false)), (.d (.str [])), (.d (.str [])), (.d (.str a6)), (.d .nils), (.d .nils), (.d (.int .i64 0))]) zo90 rfl (place_struct90) (fill1 rfl rfl rfl rfl rfl)) rfl ?_
  refine wpO.less (Less.agg' (d := encdom_node0 (dom_node0.mk false [] [] a6 [] 0)) (CellsC.eq rfl (CellsC.eq rfl (CellsC.eq rfl (CellsC.eq rfl (CellsC.consW rfl (.nils false) rfl rfl (CellsC.eq rfl (CellsC.eq rfl .nil))))))) ((dom_node0.eq _).trans rfl)) ?_
  obtain ⟨z7, hzz7, h⟩ := bind_some h
  refine wpO.retM (ins := [.box b1 [v3, w5], nestA encdom_node dom_node.kids 7 5 v3 ws4 a2.l none, slkA w5 a2.freed]) (more := []) (H0.sel [0, 1, 2] (by decide) rfl) rfl (oper_callF rfl rfl) (dom_Dom_put_ok E n _ _ _ hzz7 b1 v3 ws4 w5) (.cons (.refl _) (.cons (.refl _) .nil)) rfl ?_
  rintro _ S11 _ ⟨rfl, v8, ws9, w10, rfl⟩ H12
  replace H12 : Has B0 S11 [.box b1 [v8, w10], nestA encdom_node dom_node.kids 7 5 v8 ws9 z7.2.l none, slkA w10 z7.2.freed] := H12
  have H13 : Has B0 S11 [.box b1 [v8, w10], nestA encdom_node dom_node.kids 7 5 v8 ws9 z7.2.l none, slkA w10 z7.2.freed] := H12.sel [0, 1, 2] (by decide) rfl
  refine wpO.val rfl (oper_assign rfl) rfl ?_
  refine wpO.nil ?_
  have hr := Option.some.inj h
  subst hr
  exact WpC.ret ⟨_, rfl, rfl, _, _, _, .refl _, (.refl _), ⟨rfl, v8, ws9, w10, rfl⟩, H13.sel [0, 1, 2] (by decide) rfl⟩
set_option maxRecDepth 20000 in
set_option maxHeartbeats 4000000 in
theorem dom_Dom_Element_ok (n : Nat) (a2 : dom_Dom) (a6 : Str) (a7 : Str) (r : (Int × dom_Dom)) (h : dom_Dom_Element n a2 a6 a7 = some r) (b1 : Nat) (v3 : AV) (ws4 : List (List AV)) (w5 : AV) : SpecM R cfg.P 13 [.ptr b1 0 0, .d (.str a6), .d (.str a7)] [.box b1 [v3, w5], nestA encdom_node dom_node.kids 7 5 v3 ws4 a2.l none, slkA w5 a2.freed] (fun v l => v = .d (.int .i64 r.1) ∧ ∃ dv0 dws0 dw0, l = [.box b1 [dv0, dw0], nestA encdom_node dom_node.kids 7 5 dv0 dws0 r.2.l none, slkA dw0 r.2.freed]) := by
  unfold dom_Dom_Element at h
  refine SpecM.of_wp (C := cfg) Try.func13 rfl nm13 rfl (fun B0 S0 H0 => ?_)
  replace H0 : Has B0 S0 [.box b1 [v3, w5], nestA encdom_node dom_node.kids 7 5 v3 ws4 a2.l none, slkA w5 a2.freed] := H0
  refine WpC.seq ?_
  refine WpC.region E.obj rfl ?_
  refine wpO.val rfl (oper_assign rfl) rfl ?_
  refine wpO.nil ?_
  refine WpC.seq ?_
  refine WpC.seq ?_
  refine WpC.region E.obj rfl ?_
  refine wpO.val rfl (oper_move rfl) rfl ?_
  refine wpO.val rfl (oper_bin rfl rfl binD_seql) rfl ?_
  refine wpO.nil ?_
  refine WpC.cond rfl (fun hb8 => ?_) (fun hb8 => ?_)
  ·
    replace h := if_t hb8 h
    refine WpC.seq ?_
    refine WpC.region E.obj rfl ?_
    refine wpO.val rfl (oper_move rfl) rfl ?_
    obtain ⟨z9, hzz9, h⟩ := bind_some h
    refine wpO.retM (ins := [.box b1 [v3, w5], nestA encdom_node dom_node.kids 7 5 v3 ws4 a2.l none, slkA w5 a2.freed]) (more := []) (H0.sel [0, 1, 2] (by decide) rfl) rfl (oper_callF rfl rfl) (dom_Dom_Text_ok E n _ _ _ hzz9 b1 v3 ws4 w5) (.cons (.refl _) (.cons (.refl _) .nil)) rfl ?_
    rintro _ S13 _ ⟨rfl, v10, ws11, w12, rfl⟩ H14
    replace H14 : Has B0 S13 [.box b1 [v10, w12], nestA encdom_node dom_node.kids 7 5 v10 ws11 z9.2.l none, slkA w12 z9.2.freed] := H14
    have H15 : Has B0 S13 [.box b1 [v10, w12], nestA encdom_node dom_node.kids 7 5 v10 ws11 z9.2.l none, slkA w12 z9.2.freed] := H14.sel [0, 1, 2] (by decide) rfl
    refine wpO.val rfl (oper_assign rfl) rfl ?_
    refine wpO.nil ?_
    have hr := Option.some.inj h
    subst hr
    exact WpC.ret ⟨_, rfl, rfl, _, _, _, .refl _, (.refl _), ⟨rfl, v10, ws11, w12, rfl⟩, H15.sel [0, 1, 2] (by decide) rfl⟩
  ·
    replace h := if_f hb8 h
    refine WpC.skip ?_
    refine WpC.seq ?_
    refine WpC.region E.obj rfl ?_
    refine wpO.val rfl (oper_move rfl) rfl ?_
    refine wpO.val rfl (oper_move rfl) rfl ?_
    refine wpO.val rfl (oper_move rfl) rfl ?_
    refine wpO.val rfl (oper_build (cs := [(.d (.bool false)), (.d (.str a6)), (.d (.str a7)), (.d (.str [])), (.d .nils), (.d .nils), (.d (.int .i64 0))]) zo90 rfl (place_struct90) (fill1 rfl rfl rfl rfl (fill1 rfl rfl rfl rfl rfl))) rfl ?_
    refine wpO.less (Less.agg' (d := encdom_node0 (dom_node0.mk false a6 a7 [] [] 0)) (CellsC.eq rfl (CellsC.eq rfl (CellsC.eq rfl (CellsC.eq rfl (CellsC.consW rfl (.nils false) rfl rfl (CellsC.eq rfl (CellsC.eq rfl .nil))))))) ((dom_node0.eq _).trans rfl)) ?_
    obtain ⟨z16, hzz16, h⟩ := bind_some h
    refine wpO.retM (ins := [.box b1 [v3, w5], nestA encdom_node dom_node.kids 7 5 v3 ws4 a2.l none, slkA w5 a2.freed]) (more := []) (H0.sel [0, 1, 2] (by decide) rfl) rfl (oper_callF rfl rfl) (dom_Dom_put_ok E n _ _ _ hzz16 b1 v3 ws4 w5) (.cons (.refl _) (.cons (.refl _) .nil)) rfl ?_
    rintro _ S20 _ ⟨rfl, v17, ws18, w19, rfl⟩ H21
    replace H21 : Has B0 S20 [.box b1 [v17, w19], nestA encdom_node dom_node.kids 7 5 v17 ws18 z16.2.l none, slkA w19 z16.2.freed] := H21
    have H22 : Has B0 S20 [.box b1 [v17, w19], nestA encdom_node dom_node.kids 7 5 v17 ws18 z16.2.l none, slkA w19 z16.2.freed] := H21.sel [0, 1, 2] (by decide) rfl
    refine wpO.val rfl (oper_assign rfl) rfl ?_
    refine wpO.nil ?_
    have hr := Option.some.inj h
    subst hr
    exact WpC.ret ⟨_, rfl, rfl, _, _, _, .refl _, (.refl _), ⟨rfl, v17, ws18, w19, rfl⟩, H22.sel [0, 1, 2] (by decide) rfl⟩
set_option maxRecDepth 20000 in
set_option maxHeartbeats 4000000 in
theorem dom_New_ok (n : Nat)  (r : (Option dom_Dom)) (h : dom_New n  = some r) : SpecM R cfg.P 12 [] [] (fun v l => match r with | none => v = .d .nilp ∧ l = [] | some x => ∃ b dv dws dw, v = .ptr b 0 0 ∧ l = [] ++ [.box b [dv, dw], nestA encdom_node dom_node.kids 7 5 dv dws x.l none, slkA dw x.freed]) := by
  unfold dom_New at h
  refine SpecM.of_wp (C := cfg) Try.func12 rfl nm12 rfl (fun B0 S0 H0 => ?_)
  replace H0 : Has B0 S0 [] := H0
  refine WpC.seq ?_
  refine WpC.region E.obj rfl ?_
  refine wpO.val rfl (oper_assign rfl) rfl ?_
  refine wpO.nil ?_
  refine WpC.seq ?_
  refine WpC.region E.obj rfl ?_
  refine wpO.val rfl (oper_build (cs := [(.d .nils), (.d .nils)]) zo87 rfl (place_struct87) rfl) rfl ?_
  refine wpO.box H0 rfl rfl rfl rfl rfl (fun b1 S2 H3 => ?_)
  have H4 := H3.slkNil
  have H5 := Has.nestNil encdom_node dom_node.kids 7 5 rfl H4
  have H6 : Has B0 S2 [.box b1 [(.d .nils), (.d .nils)], nestA encdom_node dom_node.kids 7 5 (.d .nils) [] [] none, slkA (.d .nils) []] := H5.sel [2, 0, 1] (by decide) rfl
  refine wpO.val rfl (oper_assign rfl) rfl ?_
  refine wpO.nil ?_
  refine WpC.seq ?_
  refine WpC.region E.obj rfl ?_
  refine wpO.val rfl (oper_move rfl) rfl ?_
  obtain ⟨z7, hzz7, h⟩ := bind_some h
  refine wpO.retM (ins := [.box b1 [(.d .nils), (.d .nils)], nestA encdom_node dom_node.kids 7 5 (.d .nils) [] [] none, slkA (.d .nils) []]) (more := []) (H6.sel [0, 1, 2] (by decide) rfl) rfl (oper_callF rfl rfl) (dom_Dom_Element_ok E n _ _ _ _ hzz7 b1 (.d .nils) [] (.d .nils)) (.cons (.refl _) (.cons (.refl _) (.cons (.refl _) .nil))) rfl ?_
  rintro _ S11 _ ⟨rfl, v8, ws9, w10, rfl⟩ H12
  replace H12 : Has B0 S11 [.box b1 [v8, w10], nestA encdom_node dom_node.kids 7 5 v8 ws9 z7.2.l none, slkA w10 z7.2.freed] := H12
  have H13 : Has B0 S11 [.box b1 [v8, w10], nestA encdom_node dom_node.kids 7 5 v8 ws9 z7.2.l none, slkA w10 z7.2.freed] := H12.sel [0, 1, 2] (by decide) rfl
  refine wpO.nil ?_
  refine WpC.seq ?_
  refine WpC.region E.obj rfl ?_
  refine wpO.val rfl (oper_move rfl) rfl ?_
  refine wpO.val rfl (oper_assign rfl) rfl ?_
  refine wpO.nil ?_
  have hr := Option.some.inj h
  subst hr
  exact WpC.ret ⟨_, rfl, rfl, _, _, _, .refl _, (.refl _), ⟨_, v8, ws9, w10, rfl, rfl⟩, H13.sel [0, 1, 2] (by decide) rfl⟩
set_option maxRecDepth 20000 in
set_option maxHeartbeats 4000000 in
theorem dom_Dom_at_ok (n : Nat) (a2 : dom_Dom) (a6 : Int) (r : Bool) (h : dom_Dom_at n a2 a6 = some r) (b1 : Nat) (v3 : AV) (ws4 : List (List AV)) (w5 : AV) : SpecM R cfg.P 59 [.ptr b1 0 0, .d (.int .i64 a6)] [.box b1 [v3, w5], nestA encdom_node dom_node.kids 7 5 v3 ws4 a2.l none, slkA w5 a2.freed] (fun v l => v = (bif r then rowPtr v3 (Int.toNat (IntKind.wrap .i64 (a6 - 1))) 0 else .d .nilp) ∧ l = [.box b1 [v3, w5], nestA encdom_node dom_node.kids 7 5 v3 ws4 a2.l none, slkA w5 a2.freed]) := by
  unfold dom_Dom_at at h
  refine SpecM.of_wp (C := cfg) Try.func59 rfl nm59 rfl (fun B0 S0 H0 => ?_)
  replace H0 : Has B0 S0 [.box b1 [v3, w5], nestA encdom_node dom_node.kids 7 5 v3 ws4 a2.l none, slkA w5 a2.freed] := H0
  refine WpC.seq ?_
  refine WpC.region E.obj rfl ?_
  refine wpO.val rfl (oper_assign rfl) rfl ?_
  refine wpO.nil ?_
  refine WpC.seq ?_
  refine WpC.seq ?_
  refine WpC.region E.obj rfl ?_
  refine wpO.val rfl (oper_move rfl) rfl ?_
  refine wpO.val rfl (oper_bin rfl rfl binD_lss) rfl ?_
  refine wpO.val rfl (oper_move rfl) rfl ?_
  refine wpO.groupV 8 15 (.d (.bool ((decide (a6 < 1)) || (decide (((a2.l).length : Int) < a6))))) ?_ ?_
  ·
    rcases Bool.eq_false_or_eq_true ((decide (a6 < 1))) with hB7 | hB7
    ·
      refine wpO.bool hB7 ?_
      refine wpO.no rfl rfl ?_
      refine wpO.no rfl rfl ?_
      refine wpO.no rfl rfl ?_
      refine wpO.no rfl rfl ?_
      refine wpO.no rfl rfl ?_
      refine wpO.no rfl rfl ?_
      refine wpO.no rfl rfl ?_
      refine wpO.val rfl (oper_pick (b := true) rfl rfl) rfl ?_
      exact wpO.nil ⟨_, rfl, (WeakE.put (WeakE.push rfl (WeakE.push rfl (WeakE.push rfl (WeakE.push rfl (WeakE.push rfl (WeakE.push rfl (WeakE.push rfl (WeakE.put (.refl _) (Less.eq (by rw [hB7])))))))))) (Less.eq (by rw [hB7]; rw [Bool.true_or])))⟩
    ·
      refine wpO.bool hB7 ?_
      refine wpO.val rfl (oper_move rfl) rfl ?_
      refine wpO.val rfl (oper_move rfl) rfl ?_
      refine wpO.val rfl (oper_nilCheck rfl) rfl ?_
      refine wpO.val rfl (oper_fieldAddr rfl fo87_0 nz85 rfl) rfl ?_
      refine wpO.val rfl (oper_load H0 (i := 0) rfl rfl (part_one ag85 rfl)) rfl ?_
      refine wpO.val rfl (oper_lenN H0 (i := 1) rfl rfl es85) rfl ?_
      refine wpO.val rfl (oper_bin rfl rfl binD_gtr) rfl ?_
      refine wpO.val rfl (oper_pick (b := false) rfl rfl) rfl ?_
      exact wpO.nil ⟨_, rfl, (WeakE.put (WeakE.push rfl (WeakE.push rfl (WeakE.push rfl (WeakE.push rfl (WeakE.push rfl (WeakE.push rfl (WeakE.push rfl (WeakE.put (.refl _) (Less.eq (by rw [hB7])))))))))) (Less.eq (by rw [hB7]; rw [Bool.false_or])))⟩
  ·
    refine wpO.val rfl (oper_move rfl) rfl ?_
    obtain ⟨z9, hzz9, h⟩ := bind_some h
    refine wpO.groupV 11 27 (.d (.bool z9)) ?_ ?_
    ·
      rcases Bool.eq_false_or_eq_true (((decide (a6 < 1)) || (decide (((a2.l).length : Int) < a6)))) with hB8 | hB8
      ·
        refine wpO.bool hB8 ?_
        refine wpO.no rfl rfl ?_
        refine wpO.no rfl rfl ?_
        refine wpO.no rfl rfl ?_
        refine wpO.no rfl rfl ?_
        refine wpO.no rfl rfl ?_
        refine wpO.no rfl rfl ?_
        refine wpO.no rfl rfl ?_
        refine wpO.no rfl rfl ?_
        refine wpO.no rfl rfl ?_
        refine wpO.no rfl rfl ?_
        refine wpO.val rfl (oper_pick (b := true) rfl rfl) rfl ?_
        replace hzz9 := if_t hB8 hzz9
        cases hzz9
        exact wpO.nil ⟨_, rfl, (WeakE.put (WeakE.push rfl (WeakE.push rfl (WeakE.push rfl (WeakE.push rfl (WeakE.push rfl (WeakE.push rfl (WeakE.push rfl (WeakE.push rfl (WeakE.push rfl (WeakE.push rfl (WeakE.put (.refl _) (Less.eq (by rw [hB8]))))))))))))) (.refl _))⟩
      ·
        refine wpO.bool hB8 ?_
        replace hzz9 := if_f hB8 hzz9
        refine wpO.val rfl (oper_move rfl) rfl ?_
        refine wpO.val rfl (oper_nilCheck rfl) rfl ?_
        refine wpO.val rfl (oper_fieldAddr rfl fo87_0 nz85 rfl) rfl ?_
        refine wpO.val rfl (oper_load H0 (i := 0) rfl rfl (part_one ag85 rfl)) rfl ?_
        refine wpO.val rfl (oper_move rfl) rfl ?_
        refine wpO.val rfl (oper_bin rfl rfl binD_sub) rfl ?_
        obtain ⟨z10, hzz10, hzz9⟩ := bind_some hzz9
        refine wpO.val rfl (oper_nestIdx H0 (i := 1) rfl hzz10 rfl rfl el85 as90 sz90) rfl ?_
        refine wpO.val rfl (oper_nestField H0 (i := 1) rfl hzz10 rfl fo90_0 nz4 rfl) rfl ?_
        refine wpO.nestLoadF H0 rfl (q := 1) rfl hzz10 rfl ag4 rfl rfl rfl ?_
        refine wpO.val rfl (oper_not rfl) rfl ?_
        refine wpO.val rfl (oper_pick (b := false) rfl rfl) rfl ?_
        cases hzz9
        exact wpO.nil ⟨_, rfl, (WeakE.put (WeakE.push rfl (WeakE.push rfl (WeakE.push rfl (WeakE.push rfl (WeakE.push rfl (WeakE.push rfl (WeakE.push rfl (WeakE.push rfl (WeakE.push rfl (WeakE.push rfl (WeakE.put (.refl _) (Less.eq (by rw [hB8]))))))))))))) (.refl _))⟩
    ·
      refine wpO.nil ?_
      refine WpC.cond rfl (fun hb11 => ?_) (fun hb11 => ?_)
      ·
        replace h := if_t hb11 h
        refine WpC.seq ?_
        refine WpC.region E.obj rfl ?_
        refine wpO.val rfl (oper_assign rfl) rfl ?_
        refine wpO.nil ?_
        have hr := Option.some.inj h
        subst hr
        exact WpC.ret ⟨_, rfl, rfl, _, _, _, .refl _, (.refl _), ⟨rfl, rfl⟩, H0.sel [0, 1, 2] (by decide) rfl⟩
      ·
        replace h := if_f hb11 h
        refine WpC.skip ?_
        refine WpC.seq ?_
        refine WpC.region E.obj rfl ?_
        refine wpO.val rfl (oper_move rfl) rfl ?_
        refine wpO.val rfl (oper_nilCheck rfl) rfl ?_
        refine wpO.val rfl (oper_fieldAddr rfl fo87_0 nz85 rfl) rfl ?_
        refine wpO.val rfl (oper_load H0 (i := 0) rfl rfl (part_one ag85 rfl)) rfl ?_
        refine wpO.val rfl (oper_move rfl) rfl ?_
        refine wpO.val rfl (oper_bin rfl rfl binD_sub) rfl ?_
        obtain ⟨z12, hzz12, h⟩ := bind_some h
        refine wpO.val rfl (oper_nestIdx H0 (i := 1) rfl hzz12 rfl rfl el85 as90 sz90) rfl ?_
        refine wpO.val rfl (oper_assign rfl) rfl ?_
        refine wpO.nil ?_
        have hr := Option.some.inj h
        subst hr
        exact WpC.ret ⟨_, rfl, rfl, _, _, _, .refl _, (.refl _), ⟨rfl, rfl⟩, H0.sel [0, 1, 2] (by decide) rfl⟩
set_option maxRecDepth 20000 in
set_option maxHeartbeats 4000000 in
theorem slices_Index__int_int__ok (n : Nat) (a1 : (List Int)) (a2 : Int) (r : Int) (h : slices_Index__int_int_ n a1 a2 = some r) : SpecC R cfg.P 84 [(.sl ((a1).map (D.int .i64)) false), (.int .i64 a2)] (.d (.int .i64 r)) := by
  unfold slices_Index__int_int_ at h
  refine SpecC.of_wp E.obj.toObjOk (C := cfg) Try.func84 rfl nm84 rfl ?_
  have H0 : Has pureSt pureSt [] := Has.pure
  refine WpC.seq ?_
  refine WpC.region E.obj rfl ?_
  refine wpO.val rfl (oper_assign rfl) rfl ?_
  refine wpO.nil ?_
  refine WpC.seq ?_
  refine WpC.seq ?_
  refine WpC.region E.obj rfl ?_
  refine wpO.val rfl (oper_move rfl) rfl ?_
  refine wpO.val rfl (oper_lenL rfl es31) rfl ?_
  refine wpO.val rfl (oper_move rfl) rfl ?_
  refine wpO.nil ?_
  refine WpC.block ?_
  refine WpL.start (B := pureSt) (α := Int) (fun k a => slices_Index__int_int__l11 a1 a2 k a = some r) (fun a => [(0, (.d (.sl ((a1).map (D.int .i64)) false))), (1, (.d (.int .i64 a2))), (7, (.d (.int .i64 ((a1).length : Int)))), (8, (.d (.int .i64 a)))]) (fun a => []) ?_ ?_ n ⟨0, _, _, pureSt, .refl _ _, .refl _, (WeakE.cons rfl (.refl _) (WeakE.cons rfl (.refl _) (WeakE.cons rfl (.refl _) (WeakE.cons rfl (.refl _) WeakE.nil)))), H0.sel [] (by decide) rfl, h⟩
  · intro a h; simp [slices_Index__int_int__l11] at h
  ·
    intro k11 x10 S8 H9 h
    replace h : slices_Index__int_int__l11 a1 a2 (k11 + 1) x10 = some r := h
    replace H9 : Has pureSt S8 [] := H9
    unfold slices_Index__int_int__l11 at h
    refine WpC.seq ?_
    refine WpC.region E.obj rfl ?_
    refine wpO.val rfl (oper_bin rfl rfl binD_lss) rfl ?_
    refine wpO.nil ?_
    refine WpC.seq ?_
    refine WpC.cond rfl (fun hb12 => ?_) (fun hb12 => ?_)
    ·
      replace h := if_t hb12 h
      refine WpC.skip ?_
      refine WpC.seq ?_
      refine WpC.block ?_
      refine WpC.seq ?_
      refine WpC.region E.obj rfl ?_
      refine wpO.val rfl (oper_move rfl) rfl ?_
      refine wpO.val rfl (oper_assign rfl) rfl ?_
      refine wpO.nil ?_
      refine WpC.seq ?_
      refine WpC.region E.obj rfl ?_
      refine wpO.val rfl (oper_move rfl) rfl ?_
      refine wpO.val rfl (oper_move rfl) rfl ?_
      refine wpO.val rfl (oper_move rfl) rfl ?_
      obtain ⟨z13, hzz13, h⟩ := bind_some h
      refine wpO.val rfl (oper_idx rfl rfl (idxAddr (enc := (D.int .i64)) hzz13 el31 as3 (((fun _ => rfl) _).trans sz3.symm))) rfl ?_
      refine wpO.val rfl (oper_loadE rfl (partD_one ag3 rfl)) rfl ?_
      refine wpO.val rfl (oper_bin rfl rfl binD_eql) rfl ?_
      refine wpO.nil ?_
      refine WpC.cond rfl (fun hb14 => ?_) (fun hb14 => ?_)
      ·
        replace h := if_t hb14 h
        refine WpC.seq ?_
        refine WpC.region E.obj rfl ?_
        refine wpO.val rfl (oper_move rfl) rfl ?_
        refine wpO.val rfl (oper_assign rfl) rfl ?_
        refine wpO.nil ?_
        have hr := Option.some.inj h
        subst hr
        exact WpC.ret ⟨_, rfl, rfl, end1 (ArgsC.eq .nil)⟩
      ·
        replace h := if_f hb14 h
        refine WpC.skip ?_
        refine WpC.region E.obj rfl ?_
        refine wpO.val rfl (oper_bin rfl rfl binD_add) rfl ?_
        refine wpO.val rfl (oper_move rfl) rfl ?_
        refine wpO.nil ?_
        exact ⟨(IntKind.wrap .i64 (x10 + 1)), _, _, S8, .refl _ _, .refl _, (WeakE.cons rfl (.refl _) (WeakE.cons rfl (.refl _) (WeakE.cons rfl (.refl _) (WeakE.cons rfl (.refl _) WeakE.nil)))), H9.sel [] (by decide) rfl, h⟩
    ·
      replace h := if_f hb12 h
      refine WpC.exit ?_
      refine WpC.seq ?_
      refine WpC.region E.obj rfl ?_
      refine wpO.val rfl (oper_assign rfl) rfl ?_
      refine wpO.nil ?_
      have hr := Option.some.inj h
      subst hr
      exact WpC.ret ⟨_, rfl, rfl, end1 (ArgsC.eq .nil)⟩
set_option maxRecDepth 20000 in
set_option maxHeartbeats 4000000 in
theorem slices_Delete__int_int__ok (n : Nat) (a1 : (List Int)) (a3 : Int) (a4 : Int) (r : (List Int)) (h : slices_Delete__int_int_ n a1 a3 a4 = some r) (w2 : AV) : SpecM R cfg.P 85 [w2, .d (.int .i64 a3), .d (.int .i64 a4)] [slkA w2 a1] (fun v l => l = [slkA v r]) := by
  unfold slices_Delete__int_int_ at h
  refine SpecM.of_wp (C := cfg) Try.func85 rfl nm85 rfl (fun B0 S0 H0 => ?_)
  replace H0 : Has B0 S0 [slkA w2 a1] := H0
  refine WpC.seq ?_
  refine WpC.region E.obj rfl ?_
  refine wpO.val rfl (oper_assign rfl) rfl ?_
  refine wpO.nil ?_
  refine WpC.seq ?_
  refine WpC.region E.obj rfl ?_
  refine wpO.val rfl (oper_move rfl) rfl ?_
  refine wpO.val rfl (oper_move rfl) rfl ?_
  refine wpO.val rfl (oper_move rfl) rfl ?_
  refine wpO.val rfl (oper_move rfl) rfl ?_
  refine wpO.val rfl (oper_lenS H0 (i := 0) rfl rfl es31) rfl ?_
  obtain ⟨z5, hzz5, h⟩ := bind_some h
  refine wpO.val rfl (oper_slk3 H0 (q := 0) rfl rfl rfl rfl rfl el31 ue31 sz3 (delI_b hzz5)) rfl ?_
  refine wpO.nil ?_
  refine WpC.seq ?_
  refine WpC.seq ?_
  refine WpC.region E.obj rfl ?_
  refine wpO.val rfl (oper_move rfl) rfl ?_
  refine wpO.val rfl (oper_move rfl) rfl ?_
  refine wpO.val rfl (oper_bin rfl rfl binD_eql) rfl ?_
  refine wpO.nil ?_
  refine WpC.cond rfl (fun hb6 => ?_) (fun hb6 => ?_)
  ·
    replace h := if_t hb6 h
    refine WpC.seq ?_
    refine WpC.region E.obj rfl ?_
    refine wpO.val rfl (oper_move rfl) rfl ?_
    refine wpO.val rfl (oper_assign rfl) rfl ?_
    refine wpO.nil ?_
    have hr := Option.some.inj h
    subst hr
    exact WpC.ret ⟨_, rfl, rfl, _, _, _, .refl _, (.refl _), rfl, H0.sel [0] (by decide) rfl⟩
  ·
    replace h := if_f hb6 h
    refine WpC.skip ?_
    refine WpC.seq ?_
    refine WpC.region E.obj rfl ?_
    refine wpO.val rfl (oper_move rfl) rfl ?_
    refine wpO.val rfl (oper_lenS H0 (i := 0) rfl rfl es31) rfl ?_
    refine wpO.val rfl (oper_assign rfl) rfl ?_
    refine wpO.nil ?_
    refine WpC.seq ?_
    refine WpC.drawP E.obj hmix [[(0, none)], [(1, none)], [(20, some 0), (21, some 1)], [(0, none)], [(2, none)], [(23, some 3), (24, some 4)], [(22, some 2), (25, some 5)], [(26, some 6)]] [(0, some 7), (7, none)] (by kernel_rfl) [6] (by decide) [some w2, some (.d (.int .i64 a3)), some (slkTo w2 (Int.toNat a3)), some w2, some (.d (.int .i64 a4)), some (slkFrom w2 (Int.toNat a4)), none, none] ?_
    refine ⟨[0, 1, 2, 3, 4, 5], by kernel_rfl, ?_, _, _, rfl, rfl, .step ?_⟩
    ·
      refine .cons rfl rfl rfl (.step ?_) ?_
      ·
        refine wpO.val rfl (oper_move rfl) rfl ?_
        exact wpO.nil ⟨_, _, rfl, fun _ ht => by cases ht; exact ⟨rfl, .refl _⟩⟩
      refine .cons rfl rfl rfl (.step ?_) ?_
      ·
        refine wpO.val rfl (oper_move rfl) rfl ?_
        exact wpO.nil ⟨_, _, rfl, fun _ ht => by cases ht; exact ⟨rfl, .refl _⟩⟩
      refine .cons rfl rfl rfl (.step ?_) ?_
      ·
        refine wpO.val rfl (oper_slkTo H0 (q := 0) rfl rfl rfl el31 ue31 sz3 (delI_b hzz5)) rfl ?_
        exact wpO.nil ⟨_, _, rfl, fun _ ht => by cases ht; exact ⟨rfl, .refl _⟩⟩
      refine .cons rfl rfl rfl (.step ?_) ?_
      ·
        refine wpO.val rfl (oper_move rfl) rfl ?_
        exact wpO.nil ⟨_, _, rfl, fun _ ht => by cases ht; exact ⟨rfl, .refl _⟩⟩
      refine .cons rfl rfl rfl (.step ?_) ?_
      ·
        refine wpO.val rfl (oper_move rfl) rfl ?_
        exact wpO.nil ⟨_, _, rfl, fun _ ht => by cases ht; exact ⟨rfl, .refl _⟩⟩
      refine .cons rfl rfl rfl (.step ?_) ?_
      ·
        refine wpO.val rfl (oper_slkFrom H0 (q := 0) rfl rfl rfl el31 ue31 sz3 (delI_b hzz5)) rfl ?_
        exact wpO.nil ⟨_, _, rfl, fun _ ht => by cases ht; exact ⟨rfl, .refl _⟩⟩
      exact .nil
    have H12 : Has B0 S0 ([slkA w2 a1] ++ []) := H0.sel [0] (by decide) rfl
    replace H12 : Has B0 S0 [slkA w2 a1] := H12
    refine wpO.slkDel H12 rfl rfl rfl os31 el31 sz3 hzz5 rfl (fun S13 H14 hroom15 => ?_)
    have H16 : Has B0 S13 [slkA (slkTo w2 (z5).length) z5] := H14.sel [0] (by decide) rfl
    refine wpO.nil ⟨_, _, _, rfl, (fun _ ht => by cases ht; rfl), [some w2, some (.d (.int .i64 a3)), some (slkTo w2 (Int.toNat a3)), some w2, some (.d (.int .i64 a4)), some (slkFrom w2 (Int.toNat a4)), some (slkTo w2 (z5).length), some (slkTo w2 (z5).length)], (.old (.refl _) (.old (.refl _) (.old (.refl _) (.old (.refl _) (.old (.refl _) (.old (.refl _) (.new (.new .nil)))))))), (fun _ ht => by cases ht; exact ⟨_, rfl, .refl _⟩), ?_⟩
    refine ⟨[7], by kernel_rfl, ?_, _, rfl, ?_⟩
    ·
      refine .cons rfl rfl rfl (.step ?_) ?_
      ·
        refine wpO.val rfl (oper_assign rfl) rfl ?_
        exact wpO.nil ⟨_, _, rfl, fun _ ht => by cases ht; exact ⟨rfl, .refl _⟩⟩
      exact .nil
    refine WpC.seq ?_
    refine WpC.region E.obj rfl ?_
    refine wpO.val rfl (oper_move rfl) rfl ?_
    refine wpO.val rfl (oper_move rfl) rfl ?_
    refine wpO.val rfl (oper_lenS H16 (i := 0) rfl rfl es31) rfl ?_
    refine wpO.val rfl (oper_move rfl) rfl ?_
    refine wpO.val rfl (oper_slkMid H16 (q := 0) rfl rfl rfl rfl el31 ue31 sz3 (Int.natCast_nonneg _) hroom15) rfl ?_
    have H17 : Has B0 S13 ([slkA (slkTo w2 (z5).length) z5] ++ []) := H16.sel [0] (by decide) rfl
    replace H17 : Has B0 S13 [slkA (slkTo w2 (z5).length) z5] := H17
    refine wpO.slkClear (jj := _) H17 rfl rfl el31 zo3 rfl hroom15 (fun S18 H19 => ?_)
    have H20 : Has B0 S18 [slkA (slkTo w2 (z5).length) z5] := H19.sel [0] (by decide) rfl
    refine wpO.nil ?_
    refine WpC.seq ?_
    refine WpC.region E.obj rfl ?_
    refine wpO.val rfl (oper_move rfl) rfl ?_
    refine wpO.val rfl (oper_assign rfl) rfl ?_
    refine wpO.nil ?_
    have hr := Option.some.inj h
    subst hr
    exact WpC.ret ⟨_, rfl, rfl, _, _, _, .refl _, (.refl _), rfl, H20.sel [0] (by decide) rfl⟩
set_option maxRecDepth 20000 in
set_option maxHeartbeats 4000000 in
theorem dom_Dom_leave_ok (n : Nat) (a2 : dom_Dom) (a6 : Int) (r : dom_Dom) (h : dom_Dom_leave n a2 a6 = some r) (b1 : Nat) (v3 : AV) (ws4 : List (List AV)) (w5 : AV) : SpecM R cfg.P 61 [.ptr b1 0 0, .d (.int .i64 a6)] [.box b1 [v3, w5], nestA encdom_node dom_node.kids 7 5 v3 ws4 a2.l none, slkA w5 a2.freed] (fun v l => v = .tup [] ∧ ∃ dws0 dw0, l = [.box b1 [v3, dw0], nestA encdom_node dom_node.kids 7 5 v3 dws0 r.l none, slkA dw0 r.freed]) := by
  unfold dom_Dom_leave at h
  refine SpecM.of_wp (C := cfg) Try.func61 rfl nm61 rfl (fun B0 S0 H0 => ?_)
  replace H0 : Has B0 S0 [.box b1 [v3, w5], nestA encdom_node dom_node.kids 7 5 v3 ws4 a2.l none, slkA w5 a2.freed] := H0
  refine WpC.seq ?_
  refine WpC.region E.obj rfl ?_
  refine wpO.val rfl (oper_move rfl) rfl ?_
  refine wpO.val rfl (oper_nilCheck rfl) rfl ?_
  refine wpO.val rfl (oper_fieldAddr rfl fo87_0 nz85 rfl) rfl ?_
  refine wpO.val rfl (oper_load H0 (i := 0) rfl rfl (part_one ag85 rfl)) rfl ?_
  refine wpO.val rfl (oper_move rfl) rfl ?_
  refine wpO.val rfl (oper_bin rfl rfl binD_sub) rfl ?_
  obtain ⟨z7, hzz7, h⟩ := bind_some h
  refine wpO.val rfl (oper_nestIdx H0 (i := 1) rfl hzz7 rfl rfl el85 as90 sz90) rfl ?_
  refine wpO.val rfl (oper_assign rfl) rfl ?_
  refine wpO.nil ?_
  refine WpC.seq ?_
  refine WpC.seq ?_
  refine WpC.region E.obj rfl ?_
  refine wpO.val rfl (oper_move rfl) rfl ?_
  refine wpO.val rfl (oper_nilCheckN H0 (q := 1) rfl hzz7 rfl) rfl ?_
  refine wpO.val rfl (oper_nestField H0 (i := 1) rfl hzz7 rfl fo90_6 nz3 rfl) rfl ?_
  refine wpO.nestLoadF H0 rfl (q := 1) rfl hzz7 rfl ag3 rfl rfl rfl ?_
  refine wpO.val rfl (oper_bin rfl rfl binD_eql) rfl ?_
  refine wpO.nil ?_
  refine WpC.cond rfl (fun hb8 => ?_) (fun hb8 => ?_)
  ·
    replace h := if_t hb8 h
    have hr := Option.some.inj h
    subst hr
    exact WpC.ret ⟨_, rfl, rfl, _, _, _, .refl _, (.refl _), ⟨rfl, ws4, w5, rfl⟩, H0.sel [0, 1, 2] (by decide) rfl⟩
  ·
    replace h := if_f hb8 h
    refine WpC.skip ?_
    refine WpC.seq ?_
    obtain ⟨z9, hzz9, h⟩ := bind_some h
    refine WpC.drawP E.obj hmix [[(0, none)], [(19, some 0)], [(20, some 1)], [(21, some 2)], [(4, none)], [(23, some 4)], [(24, some 5)], [(25, some 6)], [(26, some 7)], [(22, some 3), (27, some 8)], [(28, some 9)]] [(1, none), (4, none), (5, some 10)] (by kernel_rfl) [] (by decide) [some (.ptr b1 0 0), some (.ptr b1 0 0), some (.ptr b1 0 0), some v3, some (rowPtr v3 (Int.toNat (IntKind.wrap .i64 (a6 - 1))) 0), some (rowPtr v3 (Int.toNat (IntKind.wrap .i64 (a6 - 1))) 0), some (rowPtr v3 (Int.toNat (IntKind.wrap .i64 (a6 - 1))) 6), some (.d (.int .i64 z7.parent)), some (.d (.int .i64 (IntKind.wrap .i64 (z7.parent - 1)))), some (rowPtr v3 (Int.toNat (IntKind.wrap .i64 (z7.parent - 1))) 0), some (rowPtr v3 (Int.toNat (IntKind.wrap .i64 (z7.parent - 1))) 0)] ?_
    refine ⟨[0, 1, 2, 3, 4, 5, 6, 7, 8, 9, 10], by kernel_rfl, ?_, _, rfl, ?_⟩
    ·
      refine .cons rfl rfl rfl (.step ?_) ?_
      ·
        refine wpO.val rfl (oper_move rfl) rfl ?_
        exact wpO.nil ⟨_, _, rfl, fun _ ht => by cases ht; exact ⟨rfl, .refl _⟩⟩
      refine .cons rfl rfl rfl (.step ?_) ?_
      ·
        refine wpO.val rfl (oper_nilCheck rfl) rfl ?_
        exact wpO.nil ⟨_, _, rfl, fun _ ht => by cases ht; exact ⟨rfl, .refl _⟩⟩
      refine .cons rfl rfl rfl (.step ?_) ?_
      ·
        refine wpO.val rfl (oper_fieldAddr rfl fo87_0 nz85 rfl) rfl ?_
        exact wpO.nil ⟨_, _, rfl, fun _ ht => by cases ht; exact ⟨rfl, .refl _⟩⟩
      refine .cons rfl rfl rfl (.step ?_) ?_
      ·
        refine wpO.val rfl (oper_load H0 (i := 0) rfl rfl (part_one ag85 rfl)) rfl ?_
        exact wpO.nil ⟨_, _, rfl, fun _ ht => by cases ht; exact ⟨rfl, .refl _⟩⟩
      refine .cons rfl rfl rfl (.step ?_) ?_
      ·
        refine wpO.val rfl (oper_move rfl) rfl ?_
        exact wpO.nil ⟨_, _, rfl, fun _ ht => by cases ht; exact ⟨rfl, .refl _⟩⟩
      refine .cons rfl rfl rfl (.step ?_) ?_
      ·
        refine wpO.val rfl (oper_nilCheckN H0 (q := 1) rfl hzz7 rfl) rfl ?_
        exact wpO.nil ⟨_, _, rfl, fun _ ht => by cases ht; exact ⟨rfl, .refl _⟩⟩
      refine .cons rfl rfl rfl (.step ?_) ?_
      ·
        refine wpO.val rfl (oper_nestField H0 (i := 1) rfl hzz7 rfl fo90_6 nz3 rfl) rfl ?_
        exact wpO.nil ⟨_, _, rfl, fun _ ht => by cases ht; exact ⟨rfl, .refl _⟩⟩
      refine .cons rfl rfl rfl (.step ?_) ?_
      ·
        refine wpO.nestLoadF H0 rfl (q := 1) rfl hzz7 rfl ag3 rfl rfl rfl ?_
        exact wpO.nil ⟨_, _, rfl, fun _ ht => by cases ht; exact ⟨rfl, .refl _⟩⟩
      refine .cons rfl rfl rfl (.step ?_) ?_
      ·
        refine wpO.val rfl (oper_bin rfl rfl binD_sub) rfl ?_
        exact wpO.nil ⟨_, _, rfl, fun _ ht => by cases ht; exact ⟨rfl, .refl _⟩⟩
      refine .cons rfl rfl rfl (.step ?_) ?_
      ·
        refine wpO.val rfl (oper_nestIdx H0 (i := 1) rfl hzz9 rfl rfl el85 as90 sz90) rfl ?_
        exact wpO.nil ⟨_, _, rfl, fun _ ht => by cases ht; exact ⟨rfl, .refl _⟩⟩
      refine .cons rfl rfl rfl (.step ?_) ?_
      ·
        refine wpO.val rfl (oper_assign rfl) rfl ?_
        exact wpO.nil ⟨_, _, rfl, fun _ ht => by cases ht; exact ⟨rfl, .refl _⟩⟩
      exact .nil
    refine WpC.seq ?_
    refine WpC.region E.obj rfl ?_
    refine wpO.val rfl (oper_move rfl) rfl ?_
    obtain ⟨z10, hzz10, h⟩ := bind_some h
    refine wpO.val rfl (oper_nilCheckN H0 (q := 1) rfl hzz10 rfl) rfl ?_
    refine wpO.val rfl (oper_nestField H0 (i := 1) rfl hzz10 rfl fo90_5 nz31 rfl) rfl ?_
    refine wpO.val rfl (oper_nestLoadK H0 (i := 1) rfl hzz10 rfl ag31) rfl ?_
    refine wpO.val rfl (oper_move rfl) rfl ?_
    obtain ⟨z11, hzz11, h⟩ := bind_some h
    have H12 : Has B0 S0 ([nestA encdom_node dom_node.kids 7 5 v3 ws4 a2.l none] ++ [.box b1 [v3, w5], slkA w5 a2.freed]) := H0.sel [1, 0, 2] (by decide) rfl
    replace H12 : Has B0 S0 [nestA encdom_node dom_node.kids 7 5 v3 ws4 a2.l none, .box b1 [v3, w5], slkA w5 a2.freed] := H12
    have H13 := Has.take H12 (idx_some hzz10).2
    refine wpO.retL E.obj.toObjOk rfl (oper_callF rfl rfl) (slices_Index__int_int__ok E n _ _ _ hzz11) rfl (.cons (Lend.slk H13 (q := 0) rfl) (.cons (.less (.refl _)) .nil)) rfl ?_
    refine wpO.val rfl (oper_assign rfl) rfl ?_
    refine wpO.nil ?_
    refine WpC.seq ?_
    refine WpC.region E.obj rfl ?_
    refine wpO.val rfl (oper_move rfl) rfl ?_
    refine wpO.val rfl (oper_move rfl) rfl ?_
    refine wpO.val rfl (oper_nilCheckN H0 (q := 1) rfl hzz10 rfl) rfl ?_
    refine wpO.val rfl (oper_nestField H0 (i := 1) rfl hzz10 rfl fo90_5 nz31 rfl) rfl ?_
    refine wpO.val rfl (oper_nestLoadK H0 (i := 1) rfl hzz10 rfl ag31) rfl ?_
    refine wpO.val rfl (oper_move rfl) rfl ?_
    refine wpO.val rfl (oper_move rfl) rfl ?_
    refine wpO.val rfl (oper_bin rfl rfl binD_add) rfl ?_
    obtain ⟨z14, hzz14, h⟩ := bind_some h
    have H15 : Has B0 S0 ([nestA encdom_node dom_node.kids 7 5 v3 ws4 a2.l none] ++ [.box b1 [v3, w5], slkA w5 a2.freed]) := H0.sel [1, 0, 2] (by decide) rfl
    replace H15 : Has B0 S0 [nestA encdom_node dom_node.kids 7 5 v3 ws4 a2.l none, .box b1 [v3, w5], slkA w5 a2.freed] := H15
    have H16 := Has.take H15 (idx_some hzz10).2
    have H17 : Has B0 S0 [slkA (kwAt 5 ws4 (Int.toNat (IntKind.wrap .i64 (z7.parent - 1)))) z10.kids, .box b1 [v3, w5], nestA encdom_node dom_node.kids 7 5 v3 ws4 a2.l (some (Int.toNat (IntKind.wrap .i64 (z7.parent - 1)))), slkA w5 a2.freed] := H16.sel [0, 2, 1, 3] (by decide) rfl
    refine wpO.retM (ins := [slkA (kwAt 5 ws4 (Int.toNat (IntKind.wrap .i64 (z7.parent - 1)))) z10.kids]) (more := [.box b1 [v3, w5], nestA encdom_node dom_node.kids 7 5 v3 ws4 a2.l (some (Int.toNat (IntKind.wrap .i64 (z7.parent - 1)))), slkA w5 a2.freed]) (H17.sel [0, 1, 2, 3] (by decide) rfl) rfl (oper_callF rfl rfl) (slices_Delete__int_int__ok E n _ _ _ _ hzz14 _) (.cons (.refl _) (.cons (.refl _) (.cons (.refl _) .nil))) rfl ?_
    rintro v18 S19 _ rfl H20
    replace H20 : Has B0 S19 [slkA v18 z14, .box b1 [v3, w5], nestA encdom_node dom_node.kids 7 5 v3 ws4 a2.l (some (Int.toNat (IntKind.wrap .i64 (z7.parent - 1)))), slkA w5 a2.freed] := H20
    have H21 : Has B0 S19 [slkA v18 z14, .box b1 [v3, w5], nestA encdom_node dom_node.kids 7 5 v3 ws4 a2.l (some (Int.toNat (IntKind.wrap .i64 (z7.parent - 1)))), slkA w5 a2.freed] := H20.sel [0, 1, 2, 3] (by decide) rfl
    refine wpO.val rfl (oper_nilCheckN H21 (q := 2) rfl hzz10 rfl) rfl ?_
    refine wpO.val rfl (oper_nestField H21 (i := 2) rfl hzz10 rfl fo90_5 nz31 rfl) rfl ?_
    have H25 : Has B0 S19 ([slkA v18 z14, nestA encdom_node dom_node.kids 7 5 v3 ws4 a2.l (some (Int.toNat (IntKind.wrap .i64 (z7.parent - 1))))] ++ [.box b1 [v3, w5], slkA w5 a2.freed]) := H21.sel [0, 2, 1, 3] (by decide) rfl
    replace H25 : Has B0 S19 [slkA v18 z14, nestA encdom_node dom_node.kids 7 5 v3 ws4 a2.l (some (Int.toNat (IntKind.wrap .i64 (z7.parent - 1)))), .box b1 [v3, w5], slkA w5 a2.freed] := H25
    refine wpO.nestStoreK (z' := (dom_node.mk z10.lives z10.tag z10.key z10.text z10.attrs z14 z10.parent)) (c := .sl ((z14).map (D.int .i64)) false) H25 rfl hzz10 (.inr rfl) rfl rfl sz31 as31 rfl rfl rfl (fun ws24 S22 H23 => ?_)
    have H26 : Has B0 S22 [.box b1 [v3, w5], nestA encdom_node dom_node.kids 7 5 v3 ws24 (setI a2.l (IntKind.wrap .i64 (z7.parent - 1)) (dom_node.mk z10.lives z10.tag z10.key z10.text z10.attrs z14 z10.parent)) none, slkA w5 a2.freed] := H23.sel [1, 0, 2] (by decide) rfl
    refine wpO.nil ?_
    refine WpC.region E.obj rfl ?_
    refine wpO.val rfl (oper_move rfl) rfl ?_
    obtain ⟨z27, hzz27, h⟩ := bind_some h
    refine wpO.val rfl (oper_nilCheckN H26 (q := 1) rfl hzz27 rfl) rfl ?_
    refine wpO.val rfl (oper_nestField H26 (i := 1) rfl hzz27 rfl fo90_6 nz3 rfl) rfl ?_
    have H31 : Has B0 S22 ([nestA encdom_node dom_node.kids 7 5 v3 ws24 (setI a2.l (IntKind.wrap .i64 (z7.parent - 1)) (dom_node.mk z10.lives z10.tag z10.key z10.text z10.attrs z14 z10.parent)) none] ++ [.box b1 [v3, w5], slkA w5 a2.freed]) := H26.sel [1, 0, 2] (by decide) rfl
    replace H31 : Has B0 S22 [nestA encdom_node dom_node.kids 7 5 v3 ws24 (setI a2.l (IntKind.wrap .i64 (z7.parent - 1)) (dom_node.mk z10.lives z10.tag z10.key z10.text z10.attrs z14 z10.parent)) none, .box b1 [v3, w5], slkA w5 a2.freed] := H31
    refine wpO.nestStoreF (z' := (dom_node.mk z27.lives z27.tag z27.key z27.text z27.attrs z27.kids 0)) H31 rfl hzz27 rfl rfl rfl rfl (.refl _) sz3 as3 rfl rfl rfl rfl rfl (fun ws30 S28 H29 => ?_)
    have H32 : Has B0 S28 [.box b1 [v3, w5], nestA encdom_node dom_node.kids 7 5 v3 ws30 (setI (setI a2.l (IntKind.wrap .i64 (z7.parent - 1)) (dom_node.mk z10.lives z10.tag z10.key z10.text z10.attrs z14 z10.parent)) (IntKind.wrap .i64 (a6 - 1)) (dom_node.mk z27.lives z27.tag z27.key z27.text z27.attrs z27.kids 0)) none, slkA w5 a2.freed] := H29.sel [1, 0, 2] (by decide) rfl
    refine wpO.nil ?_
    have hr := Option.some.inj h
    subst hr
    exact ⟨_, rfl, rfl, _, _, _, .refl _, (.refl _), ⟨rfl, ws30, w5, rfl⟩, H32.sel [0, 1, 2] (by decide) rfl⟩
set_option maxRecDepth 20000 in
set_option maxHeartbeats 4000000 in
theorem dom_Dom_Detach_ok (n : Nat) (a2 : dom_Dom) (a6 : Int) (r : (Bool × dom_Dom)) (h : dom_Dom_Detach n a2 a6 = some r) (b1 : Nat) (v3 : AV) (ws4 : List (List AV)) (w5 : AV) : SpecM R cfg.P 15 [.ptr b1 0 0, .d (.int .i64 a6)] [.box b1 [v3, w5], nestA encdom_node dom_node.kids 7 5 v3 ws4 a2.l none, slkA w5 a2.freed] (fun v l => v = .d (.bool r.1) ∧ ∃ dws0 dw0, l = [.box b1 [v3, dw0], nestA encdom_node dom_node.kids 7 5 v3 dws0 r.2.l none, slkA dw0 r.2.freed]) := by
  unfold dom_Dom_Detach at h
  refine SpecM.of_wp (C := cfg) Try.func15 rfl nm15 rfl (fun B0 S0 H0 => ?_)
  replace H0 : Has B0 S0 [.box b1 [v3, w5], nestA encdom_node dom_node.kids 7 5 v3 ws4 a2.l none, slkA w5 a2.freed] := H0
  refine WpC.seq ?_
  refine WpC.region E.obj rfl ?_
  refine wpO.val rfl (oper_assign rfl) rfl ?_
  refine wpO.nil ?_
  refine WpC.seq ?_
  refine WpC.region E.obj rfl ?_
  refine wpO.val rfl (oper_move rfl) rfl ?_
  refine wpO.val rfl (oper_move rfl) rfl ?_
  obtain ⟨z7, hzz7, h⟩ := bind_some h
  refine wpO.retM (ins := [.box b1 [v3, w5], nestA encdom_node dom_node.kids 7 5 v3 ws4 a2.l none, slkA w5 a2.freed]) (more := []) (H0.sel [0, 1, 2] (by decide) rfl) rfl (oper_callF rfl rfl) (dom_Dom_at_ok E n _ _ _ hzz7 b1 v3 ws4 w5) (.cons (.refl _) (.cons (.refl _) .nil)) rfl ?_
  rintro v8 S9 l10 hr11 H12
  rcases z7 with _ | _
  ·
    obtain ⟨rfl, rfl⟩ := hr11
    replace h := if_f rfl h
    replace H12 : Has B0 S9 [.box b1 [v3, w5], nestA encdom_node dom_node.kids 7 5 v3 ws4 a2.l none, slkA w5 a2.freed] := H12
    have H13 : Has B0 S9 [.box b1 [v3, w5], nestA encdom_node dom_node.kids 7 5 v3 ws4 a2.l none, slkA w5 a2.freed] := H12.sel [0, 1, 2] (by decide) rfl
    refine wpO.val rfl (oper_assign rfl) rfl ?_
    refine wpO.nil ?_
    refine WpC.seq ?_
    refine WpC.seq ?_
    refine WpC.region E.obj rfl ?_
    refine wpO.val rfl (oper_move rfl) rfl ?_
    refine wpO.val rfl (oper_bin rfl rfl (binD_nn up91)) rfl ?_
    refine wpO.val rfl (oper_move rfl) rfl ?_
    refine wpO.no rfl rfl ?_
    refine wpO.no rfl rfl ?_
    refine wpO.no rfl rfl ?_
    refine wpO.no rfl rfl ?_
    refine wpO.no rfl rfl ?_
    refine wpO.val rfl (oper_pick (b := true) rfl rfl) rfl ?_
    refine wpO.nil ?_
    refine WpC.cond rfl (fun hb => ?_) (fun hb => ?_)
    ·
      refine WpC.seq ?_
      refine WpC.region E.obj rfl ?_
      refine wpO.val rfl (oper_assign rfl) rfl ?_
      refine wpO.nil ?_
      have hr := Option.some.inj h
      subst hr
      exact WpC.ret ⟨_, rfl, rfl, _, _, _, .refl _, (.refl _), ⟨rfl, ws4, w5, rfl⟩, H13.sel [0, 1, 2] (by decide) rfl⟩
    ·
      cases hb
  ·
    obtain ⟨rfl, rfl⟩ := hr11
    replace h := if_t rfl h
    replace H12 : Has B0 S9 [.box b1 [v3, w5], nestA encdom_node dom_node.kids 7 5 v3 ws4 a2.l none, slkA w5 a2.freed] := H12
    have H14 : Has B0 S9 [.box b1 [v3, w5], nestA encdom_node dom_node.kids 7 5 v3 ws4 a2.l none, slkA w5 a2.freed] := H12.sel [0, 1, 2] (by decide) rfl
    refine wpO.val rfl (oper_assign rfl) rfl ?_
    refine wpO.nil ?_
    refine WpC.seq ?_
    refine WpC.seq ?_
    refine WpC.region E.obj rfl ?_
    refine wpO.val rfl (oper_move rfl) rfl ?_
    obtain ⟨z15, hzz15, h⟩ := bind_some h
    refine wpO.val rfl (oper_eqN H14 (q := 1) rfl hzz15 rfl rfl up91) rfl ?_
    refine wpO.val rfl (oper_move rfl) rfl ?_
    refine wpO.val rfl (oper_move rfl) rfl ?_
    refine wpO.val rfl (oper_nilCheckN H14 (q := 1) rfl hzz15 rfl) rfl ?_
    refine wpO.val rfl (oper_nestField H14 (i := 1) rfl hzz15 rfl fo90_6 nz3 rfl) rfl ?_
    refine wpO.nestLoadF H14 rfl (q := 1) rfl hzz15 rfl ag3 rfl rfl rfl ?_
    refine wpO.val rfl (oper_bin rfl rfl binD_eql) rfl ?_
    refine wpO.val rfl (oper_pick (b := false) rfl rfl) rfl ?_
    refine wpO.nil ?_
    refine WpC.cond rfl (fun hb16 => ?_) (fun hb16 => ?_)
    ·
      replace h := if_t hb16 h
      refine WpC.seq ?_
      refine WpC.region E.obj rfl ?_
      refine wpO.val rfl (oper_assign rfl) rfl ?_
      refine wpO.nil ?_
      have hr := Option.some.inj h
      subst hr
      exact WpC.ret ⟨_, rfl, rfl, _, _, _, .refl _, (.refl _), ⟨rfl, ws4, w5, rfl⟩, H14.sel [0, 1, 2] (by decide) rfl⟩
    ·
      replace h := if_f hb16 h
      refine WpC.skip ?_
      refine WpC.seq ?_
      refine WpC.region E.obj rfl ?_
      refine wpO.val rfl (oper_move rfl) rfl ?_
      refine wpO.val rfl (oper_move rfl) rfl ?_
      obtain ⟨z17, hzz17, h⟩ := bind_some h
      refine wpO.retM (ins := [.box b1 [v3, w5], nestA encdom_node dom_node.kids 7 5 v3 ws4 a2.l none, slkA w5 a2.freed]) (more := []) (H14.sel [0, 1, 2] (by decide) rfl) rfl (oper_callF rfl rfl) (dom_Dom_leave_ok E n _ _ _ hzz17 b1 v3 ws4 w5) (.cons (.refl _) (.cons (.refl _) .nil)) rfl ?_
      rintro _ S20 _ ⟨rfl, ws18, w19, rfl⟩ H21
      replace H21 : Has B0 S20 [.box b1 [v3, w19], nestA encdom_node dom_node.kids 7 5 v3 ws18 z17.l none, slkA w19 z17.freed] := H21
      have H22 : Has B0 S20 [.box b1 [v3, w19], nestA encdom_node dom_node.kids 7 5 v3 ws18 z17.l none, slkA w19 z17.freed] := H21.sel [0, 1, 2] (by decide) rfl
      refine wpO.nil ?_
      refine WpC.seq ?_
      refine WpC.region E.obj rfl ?_
      refine wpO.val rfl (oper_assign rfl) rfl ?_
      refine wpO.nil ?_
      have hr := Option.some.inj h
      subst hr
      exact WpC.ret ⟨_, rfl, rfl, _, _, _, .refl _, (.refl _), ⟨rfl, ws18, w19, rfl⟩, H22.sel [0, 1, 2] (by decide) rfl⟩
set_option maxRecDepth 20000 in
set_option maxHeartbeats 4000000 in
theorem dom_Dom_Loose_ok (n : Nat) (a2 : dom_Dom) (r : (List Int)) (h : dom_Dom_Loose n a2 = some r) (b1 : Nat) (v3 : AV) (ws4 : List (List AV)) (w5 : AV) : SpecM R cfg.P 18 [.ptr b1 0 0] [.box b1 [v3, w5], nestA encdom_node dom_node.kids 7 5 v3 ws4 a2.l none, slkA w5 a2.freed] (fun v l => v = .d (.sl ((r).map (D.int .i64)) false) ∧ l = [.box b1 [v3, w5], nestA encdom_node dom_node.kids 7 5 v3 ws4 a2.l none, slkA w5 a2.freed]) := by
  unfold dom_Dom_Loose at h
  refine SpecM.of_wp (C := cfg) Try.func18 rfl nm18 rfl (fun B0 S0 H0 => ?_)
  replace H0 : Has B0 S0 [.box b1 [v3, w5], nestA encdom_node dom_node.kids 7 5 v3 ws4 a2.l none, slkA w5 a2.freed] := H0
  refine WpC.seq ?_
  refine WpC.region E.obj rfl ?_
  refine wpO.val rfl (oper_assign rfl) rfl ?_
  refine wpO.nil ?_
  refine WpC.seq ?_
  refine WpC.region E.obj rfl ?_
  refine wpO.val rfl (oper_assign rfl) rfl ?_
  refine wpO.nil ?_
  refine WpC.seq ?_
  refine WpC.seq ?_
  refine WpC.region E.obj rfl ?_
  refine wpO.val rfl (oper_move rfl) rfl ?_
  refine wpO.val rfl (oper_nilCheck rfl) rfl ?_
  refine wpO.val rfl (oper_fieldAddr rfl fo87_0 nz85 rfl) rfl ?_
  refine wpO.val rfl (oper_load H0 (i := 0) rfl rfl (part_one ag85 rfl)) rfl ?_
  refine wpO.val rfl (oper_lenN H0 (i := 1) rfl rfl es85) rfl ?_
  refine wpO.val rfl (oper_move rfl) rfl ?_
  refine wpO.nil ?_
  refine WpC.block ?_
  have H38 := H0.nilG
  refine WpL.start (B := B0) (α := (List Int) × AV × Int) (fun k a => dom_Dom_Loose_l18 a2 k a.1 a.2.2 = some r) (fun a => [(3, a.2.1), (10, v3), (11, (.d (.int .i64 ((a2.l).length : Int)))), (12, (.d (.int .i64 a.2.2)))]) (fun a => [.grow a.2.1 ((a.1).map (D.int .i64)), .box b1 [v3, w5], nestA encdom_node dom_node.kids 7 5 v3 ws4 a2.l none, slkA w5 a2.freed]) ?_ ?_ n ⟨⟨[], (.d .nils), 0⟩, _, _, S0, .refl _ _, .refl _, (WeakE.cons rfl (.refl _) (WeakE.cons rfl (.refl _) (WeakE.cons rfl (.refl _) (WeakE.cons rfl (.refl _) WeakE.nil)))), H38.sel [0, 1, 2, 3] (by decide) rfl, h⟩
  · intro a h; simp [dom_Dom_Loose_l18] at h
  ·
    intro k18 a S13 H14 h
    obtain ⟨x15, v16, x17⟩ := a
    replace h : dom_Dom_Loose_l18 a2 (k18 + 1) x15 x17 = some r := h
    replace H14 : Has B0 S13 [.grow v16 ((x15).map (D.int .i64)), .box b1 [v3, w5], nestA encdom_node dom_node.kids 7 5 v3 ws4 a2.l none, slkA w5 a2.freed] := H14
    unfold dom_Dom_Loose_l18 at h
    refine WpC.seq ?_
    refine WpC.region E.obj rfl ?_
    refine wpO.val rfl (oper_bin rfl rfl binD_lss) rfl ?_
    refine wpO.nil ?_
    refine WpC.seq ?_
    refine WpC.cond rfl (fun hb19 => ?_) (fun hb19 => ?_)
    ·
      replace h := if_t hb19 h
      refine WpC.skip ?_
      refine WpC.join (B := B0) (α := (List Int) × AV) (fun a => dom_Dom_Loose_j24 x17 (dom_Dom_Loose_l18 a2 k18) a.1 = some r) (fun a => [(3, a.2), (10, v3), (11, (.d (.int .i64 ((a2.l).length : Int)))), (12, (.d (.int .i64 x17)))]) (fun a => [.grow a.2 ((a.1).map (D.int .i64)), .box b1 [v3, w5], nestA encdom_node dom_node.kids 7 5 v3 ws4 a2.l none, slkA w5 a2.freed]) ?_ ?_
      ·
        intro a S20 H21 h
        obtain ⟨x22, v23⟩ := a
        replace h : dom_Dom_Loose_j24 x17 (dom_Dom_Loose_l18 a2 k18) x22 = some r := h
        replace H21 : Has B0 S20 [.grow v23 ((x22).map (D.int .i64)), .box b1 [v3, w5], nestA encdom_node dom_node.kids 7 5 v3 ws4 a2.l none, slkA w5 a2.freed] := H21
        unfold dom_Dom_Loose_j24 at h
        refine WpC.region E.obj rfl ?_
        refine wpO.val rfl (oper_bin rfl rfl binD_add) rfl ?_
        refine wpO.val rfl (oper_move rfl) rfl ?_
        refine wpO.nil ?_
        exact ⟨⟨x22, v23, (IntKind.wrap .i64 (x17 + 1))⟩, _, _, S20, .refl _ _, .refl _, (WeakE.cons rfl (.refl _) (WeakE.cons rfl (.refl _) (WeakE.cons rfl (.refl _) (WeakE.cons rfl (.refl _) WeakE.nil)))), H21.sel [0, 1, 2, 3] (by decide) rfl, h⟩
      ·
        refine WpC.block ?_
        refine WpC.seq ?_
        refine WpC.region E.obj rfl ?_
        refine wpO.val rfl (oper_move rfl) rfl ?_
        obtain ⟨z25, hzz25, h⟩ := bind_some h
        refine wpO.val rfl (oper_nestIdx H14 (i := 2) rfl hzz25 rfl rfl el85 as90 sz90) rfl ?_
        refine wpO.nestLoadW (cs := [(.d (.bool z25.lives)), (.d (.str z25.tag)), (.d (.str z25.key)), (.d (.str z25.text)), (.d (.sl ((z25.attrs).map encAttr) false)), (kwAt 5 ws4 (Int.toNat x17)), (.d (.int .i64 z25.parent))]) H14 rfl (q := 2) rfl hzz25 rfl ag90 sz90 rfl rfl ?_
        refine wpO.alloc H14 rfl ob90 zo90 rfl rfl (fun b26 S27 H28 => ?_)
        refine wpO.val rfl (oper_assign rfl) rfl ?_
        refine wpO.store H28 (i := 0) rfl rfl rfl rfl (mkAgg_cells _) rfl sz90 (mkAgg_plain _) as90 rfl rfl rfl (fun S29 H30 => ?_)
        refine wpO.nil ?_
        refine WpC.seq ?_
        refine WpC.region E.obj rfl ?_
        refine wpO.val rfl (oper_move rfl) rfl ?_
        refine wpO.val rfl (oper_bin rfl rfl binD_add) rfl ?_
        refine wpO.val rfl (oper_assign rfl) rfl ?_
        refine wpO.nil ?_
        refine WpC.seq ?_
        refine WpC.region E.obj rfl ?_
        refine wpO.val rfl (oper_fieldAddr rfl fo90_0 nz4 rfl) rfl ?_
        refine wpO.val rfl (oper_load H30 (i := 0) rfl rfl (part_one ag4 rfl)) rfl ?_
        refine wpO.val rfl (oper_move rfl) rfl ?_
        refine wpO.groupV 4 25 (.d (.bool (z25.lives && (z25.parent == 0)))) ?_ ?_
        ·
          rcases Bool.eq_false_or_eq_true (z25.lives) with hB31 | hB31
          ·
            refine wpO.bool hB31 ?_
            refine wpO.val rfl (oper_fieldAddr rfl fo90_6 nz3 rfl) rfl ?_
            refine wpO.val rfl (oper_load H30 (i := 0) rfl rfl (part_one ag3 rfl)) rfl ?_
            refine wpO.val rfl (oper_bin rfl rfl binD_eql) rfl ?_
            refine wpO.val rfl (oper_pick (b := true) rfl rfl) rfl ?_
            exact wpO.nil ⟨_, rfl, (WeakE.put (WeakE.push rfl (WeakE.push rfl (WeakE.push rfl (WeakE.put (.refl _) (Less.eq (by rw [hB31])))))) (Less.eq (by rw [hB31]; rw [Bool.true_and])))⟩
          ·
            refine wpO.bool hB31 ?_
            refine wpO.no rfl rfl ?_
            refine wpO.no rfl rfl ?_
            refine wpO.no rfl rfl ?_
            refine wpO.val rfl (oper_pick (b := false) rfl rfl) rfl ?_
            exact wpO.nil ⟨_, rfl, (WeakE.put (WeakE.push rfl (WeakE.push rfl (WeakE.push rfl (WeakE.put (.refl _) (Less.eq (by rw [hB31])))))) (Less.eq (by rw [hB31]; rw [Bool.false_and])))⟩
        ·
          refine wpO.val rfl (oper_move rfl) rfl ?_
          refine wpO.groupV 3 29 (.d (.bool ((z25.lives && (z25.parent == 0)) && ((IntKind.wrap .i64 (x17 + 1)) != 1)))) ?_ ?_
          ·
            rcases Bool.eq_false_or_eq_true ((z25.lives && (z25.parent == 0))) with hB32 | hB32
            ·
              refine wpO.bool hB32 ?_
              refine wpO.val rfl (oper_move rfl) rfl ?_
              refine wpO.val rfl (oper_bin rfl rfl binD_neq) rfl ?_
              refine wpO.val rfl (oper_pick (b := true) rfl rfl) rfl ?_
              exact wpO.nil ⟨_, rfl, (WeakE.put (WeakE.push rfl (WeakE.push rfl (WeakE.put (.refl _) (Less.eq (by rw [hB32]))))) (Less.eq (by rw [hB32]; rw [Bool.true_and])))⟩
            ·
              refine wpO.bool hB32 ?_
              refine wpO.no rfl rfl ?_
              refine wpO.no rfl rfl ?_
              refine wpO.val rfl (oper_pick (b := false) rfl rfl) rfl ?_
              exact wpO.nil ⟨_, rfl, (WeakE.put (WeakE.push rfl (WeakE.push rfl (WeakE.put (.refl _) (Less.eq (by rw [hB32]))))) (Less.eq (by rw [hB32]; rw [Bool.false_and])))⟩
          ·
            refine wpO.nil ?_
            refine WpC.cond rfl (fun hb33 => ?_) (fun hb33 => ?_)
            ·
              replace h := if_t hb33 h
              refine WpC.region E.obj rfl ?_
              refine wpO.val rfl (oper_move rfl) rfl ?_
              refine wpO.val rfl (oper_move rfl) rfl ?_
              refine wpO.val rfl (oper_buildSlice (vs := [(.d (.int .i64 (IntKind.wrap .i64 (x17 + 1))))]) (ds := [(.int .i64 (IntKind.wrap .i64 (x17 + 1)))]) rw31 el31 ag3 zo3 sz3 rfl (by decide) (.cons rfl rfl .nil) rfl (by intro d hd; simp only [List.mem_cons, List.not_mem_nil, or_false] at hd; rcases hd with rfl <;> rfl) rfl) rfl ?_
              obtain ⟨z34, hzz34, h⟩ := bind_some h
              refine wpO.append (xs := (x15).map (D.int .i64)) (ys := ([(IntKind.wrap .i64 (x17 + 1))]).map (D.int .i64)) (zs := (z34).map (D.int .i64)) H30 rfl rfl rfl (i := 1) rfl rfl rw31 os31 el31 (app_bound hzz34) nb3 rfl (sizes_map (enc := (D.int .i64)) (fun _ => sz3.symm) _) (sizes_map (enc := (D.int .i64)) (fun _ => sz3.symm) _) zk3 rfl (app_eq hzz34) (fun v35 S36 H37 => ?_)
              refine wpO.val rfl (oper_assign rfl) rfl ?_
              refine wpO.nil ?_
              exact ⟨⟨z34, v35⟩, _, _, S36, .refl _ _, .refl _, (WeakE.cons rfl (.refl _) (WeakE.cons rfl (.refl _) (WeakE.cons rfl (.refl _) (WeakE.cons rfl (.refl _) WeakE.nil)))), H37.sel [1, 2, 3, 4] (by decide) rfl, h⟩
            ·
              replace h := if_f hb33 h
              refine WpC.skip ?_
              exact ⟨⟨x15, v16⟩, _, _, S29, .refl _ _, .refl _, (WeakE.cons rfl (.refl _) (WeakE.cons rfl (.refl _) (WeakE.cons rfl (.refl _) (WeakE.cons rfl (.refl _) WeakE.nil)))), H30.sel [1, 2, 3, 4] (by decide) rfl, h⟩
    ·
      replace h := if_f hb19 h
      refine WpC.exit ?_
      refine WpC.seq ?_
      refine WpC.region E.obj rfl ?_
      refine wpO.val rfl (oper_move rfl) rfl ?_
      refine wpO.val rfl (oper_assign rfl) rfl ?_
      refine wpO.nil ?_
      have hr := Option.some.inj h
      subst hr
      exact WpC.ret ⟨_, rfl, rfl, _, _, _, .refl _, (growL H14 (i := 0) rfl), ⟨rfl, rfl⟩, H14.sel [1, 2, 3] (by decide) rfl⟩
set_option maxRecDepth 20000 in
set_option maxHeartbeats 4000000 in
theorem dom_Dom_Parent_ok (n : Nat) (a2 : dom_Dom) (a6 : Int) (r : Int) (h : dom_Dom_Parent n a2 a6 = some r) (b1 : Nat) (v3 : AV) (ws4 : List (List AV)) (w5 : AV) : SpecM R cfg.P 20 [.ptr b1 0 0, .d (.int .i64 a6)] [.box b1 [v3, w5], nestA encdom_node dom_node.kids 7 5 v3 ws4 a2.l none, slkA w5 a2.freed] (fun v l => v = .d (.int .i64 r) ∧ l = [.box b1 [v3, w5], nestA encdom_node dom_node.kids 7 5 v3 ws4 a2.l none, slkA w5 a2.freed]) := by
  unfold dom_Dom_Parent at h
  refine SpecM.of_wp (C := cfg) Try.func20 rfl nm20 rfl (fun B0 S0 H0 => ?_)
  replace H0 : Has B0 S0 [.box b1 [v3, w5], nestA encdom_node dom_node.kids 7 5 v3 ws4 a2.l none, slkA w5 a2.freed] := H0
  refine WpC.seq ?_
  refine WpC.region E.obj rfl ?_
  refine wpO.val rfl (oper_assign rfl) rfl ?_
  refine wpO.nil ?_
  refine WpC.seq ?_
  refine WpC.region E.obj rfl ?_
  refine wpO.val rfl (oper_move rfl) rfl ?_
  refine wpO.val rfl (oper_move rfl) rfl ?_
  obtain ⟨z7, hzz7, h⟩ := bind_some h
  refine wpO.retM (ins := [.box b1 [v3, w5], nestA encdom_node dom_node.kids 7 5 v3 ws4 a2.l none, slkA w5 a2.freed]) (more := []) (H0.sel [0, 1, 2] (by decide) rfl) rfl (oper_callF rfl rfl) (dom_Dom_at_ok E n _ _ _ hzz7 b1 v3 ws4 w5) (.cons (.refl _) (.cons (.refl _) .nil)) rfl ?_
  rintro v8 S9 l10 hr11 H12
  rcases z7 with _ | _
  ·
    obtain ⟨rfl, rfl⟩ := hr11
    replace h := if_f rfl h
    replace H12 : Has B0 S9 [.box b1 [v3, w5], nestA encdom_node dom_node.kids 7 5 v3 ws4 a2.l none, slkA w5 a2.freed] := H12
    have H13 : Has B0 S9 [.box b1 [v3, w5], nestA encdom_node dom_node.kids 7 5 v3 ws4 a2.l none, slkA w5 a2.freed] := H12.sel [0, 1, 2] (by decide) rfl
    refine wpO.val rfl (oper_assign rfl) rfl ?_
    refine wpO.nil ?_
    refine WpC.seq ?_
    refine WpC.seq ?_
    refine WpC.region E.obj rfl ?_
    refine wpO.val rfl (oper_move rfl) rfl ?_
    refine wpO.val rfl (oper_bin rfl rfl (binD_nn up91)) rfl ?_
    refine wpO.nil ?_
    refine WpC.cond rfl (fun hb => ?_) (fun hb => ?_)
    ·
      refine WpC.seq ?_
      refine WpC.region E.obj rfl ?_
      refine wpO.val rfl (oper_assign rfl) rfl ?_
      refine wpO.nil ?_
      have hr := Option.some.inj h
      subst hr
      exact WpC.ret ⟨_, rfl, rfl, _, _, _, .refl _, (.refl _), ⟨rfl, rfl⟩, H13.sel [0, 1, 2] (by decide) rfl⟩
    ·
      cases hb
  ·
    obtain ⟨rfl, rfl⟩ := hr11
    replace h := if_t rfl h
    replace H12 : Has B0 S9 [.box b1 [v3, w5], nestA encdom_node dom_node.kids 7 5 v3 ws4 a2.l none, slkA w5 a2.freed] := H12
    have H14 : Has B0 S9 [.box b1 [v3, w5], nestA encdom_node dom_node.kids 7 5 v3 ws4 a2.l none, slkA w5 a2.freed] := H12.sel [0, 1, 2] (by decide) rfl
    refine wpO.val rfl (oper_assign rfl) rfl ?_
    refine wpO.nil ?_
    refine WpC.seq ?_
    refine WpC.seq ?_
    refine WpC.region E.obj rfl ?_
    refine wpO.val rfl (oper_move rfl) rfl ?_
    obtain ⟨z15, hzz15, h⟩ := bind_some h
    refine wpO.val rfl (oper_eqN H14 (q := 1) rfl hzz15 rfl rfl up91) rfl ?_
    refine wpO.nil ?_
    refine WpC.cond rfl (fun hb => ?_) (fun hb => ?_)
    ·
      cases hb
    ·
      refine WpC.skip ?_
      refine WpC.seq ?_
      refine WpC.region E.obj rfl ?_
      refine wpO.val rfl (oper_move rfl) rfl ?_
      refine wpO.val rfl (oper_nilCheckN H14 (q := 1) rfl hzz15 rfl) rfl ?_
      refine wpO.val rfl (oper_nestField H14 (i := 1) rfl hzz15 rfl fo90_6 nz3 rfl) rfl ?_
      refine wpO.nestLoadF H14 rfl (q := 1) rfl hzz15 rfl ag3 rfl rfl rfl ?_
      refine wpO.val rfl (oper_assign rfl) rfl ?_
      refine wpO.nil ?_
      have hr := Option.some.inj h
      subst hr
      exact WpC.ret ⟨_, rfl, rfl, _, _, _, .refl _, (.refl _), ⟨rfl, rfl⟩, H14.sel [0, 1, 2] (by decide) rfl⟩
set_option maxRecDepth 20000 in
set_option maxHeartbeats 4000000 in
theorem dom_Dom_Count_ok (n : Nat) (a2 : dom_Dom) (r : Int) (h : dom_Dom_Count n a2 = some r) (b1 : Nat) (v3 : AV) (ws4 : List (List AV)) (w5 : AV) : SpecM R cfg.P 22 [.ptr b1 0 0] [.box b1 [v3, w5], nestA encdom_node dom_node.kids 7 5 v3 ws4 a2.l none, slkA w5 a2.freed] (fun v l => v = .d (.int .i64 r) ∧ l = [.box b1 [v3, w5], nestA encdom_node dom_node.kids 7 5 v3 ws4 a2.l none, slkA w5 a2.freed]) := by
  unfold dom_Dom_Count at h
  refine SpecM.of_wp (C := cfg) Try.func22 rfl nm22 rfl (fun B0 S0 H0 => ?_)
  replace H0 : Has B0 S0 [.box b1 [v3, w5], nestA encdom_node dom_node.kids 7 5 v3 ws4 a2.l none, slkA w5 a2.freed] := H0
  refine WpC.seq ?_
  refine WpC.region E.obj rfl ?_
  refine wpO.val rfl (oper_assign rfl) rfl ?_
  refine wpO.nil ?_
  refine WpC.seq ?_
  refine WpC.drawP E.obj hmix [[(0, none)], [(3, some 0)], [(4, some 1)], [(5, some 2)], [(6, some 3)], [(0, none)], [(8, some 5)], [(9, some 6)], [(10, some 7)], [(11, some 8)], [(7, some 4), (12, some 9)], [(13, some 10)]] [(2, some 11)] (by kernel_rfl) [] (by decide) [some (.ptr b1 0 0), some (.ptr b1 0 0), some (.ptr b1 0 0), some v3, some (.d (.int .i64 ((a2.l).length : Int))), some (.ptr b1 0 0), some (.ptr b1 0 0), some (.ptr b1 0 1), some w5, some (.d (.int .i64 ((a2.freed).length : Int))), some (.d (.int .i64 (IntKind.wrap .i64 (((a2.l).length : Int) - ((a2.freed).length : Int))))), some (.d (.int .i64 (IntKind.wrap .i64 (((a2.l).length : Int) - ((a2.freed).length : Int)))))] ?_
  refine ⟨[0, 1, 2, 3, 4, 5, 6, 7, 8, 9, 10, 11], by kernel_rfl, ?_, _, rfl, ?_⟩
  ·
    refine .cons rfl rfl rfl (.step ?_) ?_
    ·
      refine wpO.val rfl (oper_move rfl) rfl ?_
      exact wpO.nil ⟨_, _, rfl, fun _ ht => by cases ht; exact ⟨rfl, .refl _⟩⟩
    refine .cons rfl rfl rfl (.step ?_) ?_
    ·
      refine wpO.val rfl (oper_nilCheck rfl) rfl ?_
      exact wpO.nil ⟨_, _, rfl, fun _ ht => by cases ht; exact ⟨rfl, .refl _⟩⟩
    refine .cons rfl rfl rfl (.step ?_) ?_
    ·
      refine wpO.val rfl (oper_fieldAddr rfl fo87_0 nz85 rfl) rfl ?_
      exact wpO.nil ⟨_, _, rfl, fun _ ht => by cases ht; exact ⟨rfl, .refl _⟩⟩
    refine .cons rfl rfl rfl (.step ?_) ?_
    ·
      refine wpO.val rfl (oper_load H0 (i := 0) rfl rfl (part_one ag85 rfl)) rfl ?_
      exact wpO.nil ⟨_, _, rfl, fun _ ht => by cases ht; exact ⟨rfl, .refl _⟩⟩
    refine .cons rfl rfl rfl (.step ?_) ?_
    ·
      refine wpO.val rfl (oper_lenN H0 (i := 1) rfl rfl es85) rfl ?_
      exact wpO.nil ⟨_, _, rfl, fun _ ht => by cases ht; exact ⟨rfl, .refl _⟩⟩
    refine .cons rfl rfl rfl (.step ?_) ?_
    ·
      refine wpO.val rfl (oper_move rfl) rfl ?_
      exact wpO.nil ⟨_, _, rfl, fun _ ht => by cases ht; exact ⟨rfl, .refl _⟩⟩
    refine .cons rfl rfl rfl (.step ?_) ?_
    ·
      refine wpO.val rfl (oper_nilCheck rfl) rfl ?_
      exact wpO.nil ⟨_, _, rfl, fun _ ht => by cases ht; exact ⟨rfl, .refl _⟩⟩
    refine .cons rfl rfl rfl (.step ?_) ?_
    ·
      refine wpO.val rfl (oper_fieldAddr rfl fo87_1 nz31 rfl) rfl ?_
      exact wpO.nil ⟨_, _, rfl, fun _ ht => by cases ht; exact ⟨rfl, .refl _⟩⟩
    refine .cons rfl rfl rfl (.step ?_) ?_
    ·
      refine wpO.val rfl (oper_load H0 (i := 0) rfl rfl (part_one ag31 rfl)) rfl ?_
      exact wpO.nil ⟨_, _, rfl, fun _ ht => by cases ht; exact ⟨rfl, .refl _⟩⟩
    refine .cons rfl rfl rfl (.step ?_) ?_
    ·
      refine wpO.val rfl (oper_lenS H0 (i := 2) rfl rfl es31) rfl ?_
      exact wpO.nil ⟨_, _, rfl, fun _ ht => by cases ht; exact ⟨rfl, .refl _⟩⟩
    refine .cons rfl rfl rfl (.step ?_) ?_
    ·
      refine wpO.val rfl (oper_bin rfl rfl binD_sub) rfl ?_
      exact wpO.nil ⟨_, _, rfl, fun _ ht => by cases ht; exact ⟨rfl, .refl _⟩⟩
    refine .cons rfl rfl rfl (.step ?_) ?_
    ·
      refine wpO.val rfl (oper_assign rfl) rfl ?_
      exact wpO.nil ⟨_, _, rfl, fun _ ht => by cases ht; exact ⟨rfl, .refl _⟩⟩
    exact .nil
  have hr := Option.some.inj h
  subst hr
  exact WpC.ret ⟨_, rfl, rfl, _, _, _, .refl _, (.refl _), ⟨rfl, rfl⟩, H0.sel [0, 1, 2] (by decide) rfl⟩
set_option maxRecDepth 20000 in
set_option maxHeartbeats 4000000 in
theorem porticobook_Within_ok (n : Nat) (a1 : Int) (a2 : Int) (a3 : Int) (r : Int) (h : porticobook_Within n a1 a2 a3 = some r) : SpecC R cfg.P 24 [(.int .i64 a1), (.int .i64 a2), (.int .i64 a3)] (.d (.int .i64 r)) := by
  unfold porticobook_Within at h
  refine SpecC.of_wp E.obj.toObjOk (C := cfg) Try.func24 rfl nm24 rfl ?_
  have H0 : Has pureSt pureSt [] := Has.pure
  refine WpC.seq ?_
  refine WpC.region E.obj rfl ?_
  refine wpO.val rfl (oper_assign rfl) rfl ?_
  refine wpO.nil ?_
  refine WpC.seq ?_
  refine WpC.region E.obj rfl ?_
  refine wpO.val rfl (oper_move rfl) rfl ?_
  refine wpO.val rfl (oper_move rfl) rfl ?_
  refine wpO.val rfl (oper_move rfl) rfl ?_
  refine wpO.val rfl (oper_bin rfl rfl binD_sub) rfl ?_
  refine wpO.val rfl (oper_bin rfl rfl binD_add) rfl ?_
  obtain ⟨z4, hzz4, h⟩ := bind_some h
  refine wpO.val rfl (oper_bin rfl rfl (binD_remI hzz4)) rfl ?_
  refine wpO.val rfl (oper_assign rfl) rfl ?_
  refine wpO.nil ?_
  refine WpC.join (B := pureSt) (α := Int) (fun a => porticobook_Within_j8 a2 a = some r) (fun a => [(0, (.d (.int .i64 a))), (1, (.d (.int .i64 a2)))]) (fun a => []) ?_ ?_
  ·
    intro x7 S5 H6 h
    replace h : porticobook_Within_j8 a2 x7 = some r := h
    replace H6 : Has pureSt S5 [] := H6
    unfold porticobook_Within_j8 at h
    refine WpC.seq ?_
    refine WpC.region E.obj rfl ?_
    refine wpO.val rfl (oper_move rfl) rfl ?_
    refine wpO.val rfl (oper_move rfl) rfl ?_
    refine wpO.val rfl (oper_bin rfl rfl binD_add) rfl ?_
    refine wpO.val rfl (oper_assign rfl) rfl ?_
    refine wpO.nil ?_
    have hr := Option.some.inj h
    subst hr
    exact WpC.ret ⟨_, rfl, rfl, end1 (ArgsC.eq .nil)⟩
  ·
    refine WpC.seq ?_
    refine WpC.region E.obj rfl ?_
    refine wpO.val rfl (oper_move rfl) rfl ?_
    refine wpO.val rfl (oper_bin rfl rfl binD_lss) rfl ?_
    refine wpO.nil ?_
    refine WpC.cond rfl (fun hb9 => ?_) (fun hb9 => ?_)
    ·
      replace h := if_t hb9 h
      refine WpC.region E.obj rfl ?_
      refine wpO.val rfl (oper_move rfl) rfl ?_
      refine wpO.val rfl (oper_move rfl) rfl ?_
      refine wpO.val rfl (oper_bin rfl rfl binD_add) rfl ?_
      refine wpO.val rfl (oper_move rfl) rfl ?_
      refine wpO.val rfl (oper_bin rfl rfl binD_sub) rfl ?_
      refine wpO.val rfl (oper_bin rfl rfl binD_add) rfl ?_
      refine wpO.val rfl (oper_assign rfl) rfl ?_
      refine wpO.nil ?_
      exact ⟨(IntKind.wrap .i64 ((IntKind.wrap .i64 ((IntKind.wrap .i64 (z4 + a3)) - a2)) + 1)), _, _, pureSt, .refl _ _, .refl _, (WeakE.cons rfl (.refl _) (WeakE.cons rfl (.refl _) WeakE.nil)), H0.sel [] (by decide) rfl, h⟩
    ·
      replace h := if_f hb9 h
      refine WpC.skip ?_
      exact ⟨z4, _, _, pureSt, .refl _ _, .refl _, (WeakE.cons rfl (.refl _) (WeakE.cons rfl (.refl _) WeakE.nil)), H0.sel [] (by decide) rfl, h⟩
set_option maxRecDepth 20000 in
set_option maxHeartbeats 4000000 in
theorem dom_Dom_within_ok (n : Nat) (a2 : dom_Dom) (a6 : Int) (a7 : Int) (r : Bool) (h : dom_Dom_within n a2 a6 a7 = some r) (b1 : Nat) (v3 : AV) (ws4 : List (List AV)) (w5 : AV) : SpecM R cfg.P 60 [.ptr b1 0 0, .d (.int .i64 a6), .d (.int .i64 a7)] [.box b1 [v3, w5], nestA encdom_node dom_node.kids 7 5 v3 ws4 a2.l none, slkA w5 a2.freed] (fun v l => v = .d (.bool r) ∧ l = [.box b1 [v3, w5], nestA encdom_node dom_node.kids 7 5 v3 ws4 a2.l none, slkA w5 a2.freed]) := by
  unfold dom_Dom_within at h
  refine SpecM.of_wp (C := cfg) Try.func60 rfl nm60 rfl (fun B0 S0 H0 => ?_)
  replace H0 : Has B0 S0 [.box b1 [v3, w5], nestA encdom_node dom_node.kids 7 5 v3 ws4 a2.l none, slkA w5 a2.freed] := H0
  refine WpC.seq ?_
  refine WpC.region E.obj rfl ?_
  refine wpO.val rfl (oper_assign rfl) rfl ?_
  refine wpO.nil ?_
  refine WpC.seq ?_
  refine WpC.block ?_
  refine WpL.start (B := B0) (α := Int) (fun k a => dom_Dom_within_l16 a2 a7 k a = some r) (fun a => [(0, (.ptr b1 0 0)), (1, (.d (.int .i64 a))), (2, (.d (.int .i64 a7)))]) (fun a => [.box b1 [v3, w5], nestA encdom_node dom_node.kids 7 5 v3 ws4 a2.l none, slkA w5 a2.freed]) ?_ ?_ n ⟨a6, _, _, S0, .refl _ _, .refl _, (WeakE.cons rfl (.refl _) (WeakE.cons rfl (.refl _) (WeakE.cons rfl (.refl _) WeakE.nil))), H0.sel [0, 1, 2] (by decide) rfl, h⟩
  · intro a h; simp [dom_Dom_within_l16] at h
  ·
    intro k16 x15 S13 H14 h
    replace h : dom_Dom_within_l16 a2 a7 (k16 + 1) x15 = some r := h
    replace H14 : Has B0 S13 [.box b1 [v3, w5], nestA encdom_node dom_node.kids 7 5 v3 ws4 a2.l none, slkA w5 a2.freed] := H14
    unfold dom_Dom_within_l16 at h
    refine WpC.seq ?_
    refine WpC.seq ?_
    refine WpC.region E.obj rfl ?_
    refine wpO.val rfl (oper_move rfl) rfl ?_
    refine wpO.val rfl (oper_bin rfl rfl binD_neq) rfl ?_
    refine wpO.val rfl (oper_move rfl) rfl ?_
    refine wpO.groupV 4 13 (.d (.bool ((x15 != 0) && (x15 != a7)))) ?_ ?_
    ·
      rcases Bool.eq_false_or_eq_true ((x15 != 0)) with hB17 | hB17
      ·
        refine wpO.bool hB17 ?_
        refine wpO.val rfl (oper_move rfl) rfl ?_
        refine wpO.val rfl (oper_move rfl) rfl ?_
        refine wpO.val rfl (oper_bin rfl rfl binD_neq) rfl ?_
        refine wpO.val rfl (oper_pick (b := true) rfl rfl) rfl ?_
        exact wpO.nil ⟨_, rfl, (WeakE.put (WeakE.push rfl (WeakE.push rfl (WeakE.push rfl (WeakE.put (.refl _) (Less.eq (by rw [hB17])))))) (Less.eq (by rw [hB17]; rw [Bool.true_and])))⟩
      ·
        refine wpO.bool hB17 ?_
        refine wpO.no rfl rfl ?_
        refine wpO.no rfl rfl ?_
        refine wpO.no rfl rfl ?_
        refine wpO.val rfl (oper_pick (b := false) rfl rfl) rfl ?_
        exact wpO.nil ⟨_, rfl, (WeakE.put (WeakE.push rfl (WeakE.push rfl (WeakE.push rfl (WeakE.put (.refl _) (Less.eq (by rw [hB17])))))) (Less.eq (by rw [hB17]; rw [Bool.false_and])))⟩
    ·
      refine wpO.nil ?_
      refine WpC.cond rfl (fun hb18 => ?_) (fun hb18 => ?_)
      ·
        replace h := if_t hb18 h
        refine WpC.skip ?_
        refine WpC.block ?_
        refine WpC.region E.obj rfl ?_
        refine wpO.val rfl (oper_move rfl) rfl ?_
        refine wpO.val rfl (oper_nilCheck rfl) rfl ?_
        refine wpO.val rfl (oper_fieldAddr rfl fo87_0 nz85 rfl) rfl ?_
        refine wpO.val rfl (oper_load H14 (i := 0) rfl rfl (part_one ag85 rfl)) rfl ?_
        refine wpO.val rfl (oper_move rfl) rfl ?_
        refine wpO.val rfl (oper_bin rfl rfl binD_sub) rfl ?_
        obtain ⟨z19, hzz19, h⟩ := bind_some h
        refine wpO.val rfl (oper_nestIdx H14 (i := 1) rfl hzz19 rfl rfl el85 as90 sz90) rfl ?_
        refine wpO.val rfl (oper_nestField H14 (i := 1) rfl hzz19 rfl fo90_6 nz3 rfl) rfl ?_
        refine wpO.nestLoadF H14 rfl (q := 1) rfl hzz19 rfl ag3 rfl rfl rfl ?_
        refine wpO.val rfl (oper_assign rfl) rfl ?_
        refine wpO.nil ?_
        exact ⟨z19.parent, _, _, S13, .refl _ _, .refl _, (WeakE.cons rfl (.refl _) (WeakE.cons rfl (.refl _) (WeakE.cons rfl (.refl _) WeakE.nil))), H14.sel [0, 1, 2] (by decide) rfl, h⟩
      ·
        replace h := if_f hb18 h
        refine WpC.exit ?_
        refine WpC.seq ?_
        refine WpC.region E.obj rfl ?_
        refine wpO.val rfl (oper_move rfl) rfl ?_
        refine wpO.val rfl (oper_move rfl) rfl ?_
        refine wpO.val rfl (oper_bin rfl rfl binD_eql) rfl ?_
        refine wpO.val rfl (oper_assign rfl) rfl ?_
        refine wpO.nil ?_
        have hr := Option.some.inj h
        subst hr
        exact WpC.ret ⟨_, rfl, rfl, _, _, _, .refl _, (.refl _), ⟨rfl, rfl⟩, H14.sel [0, 1, 2] (by decide) rfl⟩
set_option maxRecDepth 20000 in
set_option maxHeartbeats 4000000 in
theorem dom_Dom_Insert_ok (n : Nat) (a2 : dom_Dom) (a6 : Int) (a7 : Int) (a8 : Int) (r : (Bool × dom_Dom)) (h : dom_Dom_Insert n a2 a6 a7 a8 = some r) (b1 : Nat) (v3 : AV) (ws4 : List (List AV)) (w5 : AV) : SpecM R cfg.P 14 [.ptr b1 0 0, .d (.int .i64 a6), .d (.int .i64 a7), .d (.int .i64 a8)] [.box b1 [v3, w5], nestA encdom_node dom_node.kids 7 5 v3 ws4 a2.l none, slkA w5 a2.freed] (fun v l => v = .d (.bool r.1) ∧ ∃ dws0 dw0, l = [.box b1 [v3, dw0], nestA encdom_node dom_node.kids 7 5 v3 dws0 r.2.l none, slkA dw0 r.2.freed]) := by
  unfold dom_Dom_Insert at h
  refine SpecM.of_wp (C := cfgR2) Try.func14 rfl nm14 rfl (fun B0 S0 H0 => ?_)
  replace H0 : Has B0 S0 [.box b1 [v3, w5], nestA encdom_node dom_node.kids 7 5 v3 ws4 a2.l none, slkA w5 a2.freed] := H0
  refine WpC.seq ?_
  refine WpC.region (objR2 E) rfl ?_
  refine wpO.val rfl (oper_assign rfl) rfl ?_
  refine wpO.nil ?_
  refine WpC.seq ?_
  refine WpC.region (objR2 E) rfl ?_
  refine wpO.val rfl (oper_move rfl) rfl ?_
  refine wpO.val rfl (oper_move rfl) rfl ?_
  obtain ⟨z9, hzz9, h⟩ := bind_some h
  refine wpO.retM (ins := [.box b1 [v3, w5], nestA encdom_node dom_node.kids 7 5 v3 ws4 a2.l none, slkA w5 a2.freed]) (more := []) (H0.sel [0, 1, 2] (by decide) rfl) rfl (oper_callF rfl rfl) (dom_Dom_at_ok E n _ _ _ hzz9 b1 v3 ws4 w5) (.cons (.refl _) (.cons (.refl _) .nil)) rfl ?_
  rintro v10 S11 l12 hr13 H14
  rcases z9 with _ | _
  ·
    obtain ⟨rfl, rfl⟩ := hr13
    replace h := if_f rfl h
    replace H14 : Has B0 S11 [.box b1 [v3, w5], nestA encdom_node dom_node.kids 7 5 v3 ws4 a2.l none, slkA w5 a2.freed] := H14
    have H15 : Has B0 S11 [.box b1 [v3, w5], nestA encdom_node dom_node.kids 7 5 v3 ws4 a2.l none, slkA w5 a2.freed] := H14.sel [0, 1, 2] (by decide) rfl
    refine wpO.val rfl (oper_move rfl) rfl ?_
    refine wpO.val rfl (oper_move rfl) rfl ?_
    obtain ⟨z16, hzz16, h⟩ := bind_some h
    refine wpO.retM (ins := [.box b1 [v3, w5], nestA encdom_node dom_node.kids 7 5 v3 ws4 a2.l none, slkA w5 a2.freed]) (more := []) (H15.sel [0, 1, 2] (by decide) rfl) rfl (oper_callF rfl rfl) (dom_Dom_at_ok E n _ _ _ hzz16 b1 v3 ws4 w5) (.cons (.refl _) (.cons (.refl _) .nil)) rfl ?_
    rintro v17 S18 l19 hr20 H21
    rcases z16 with _ | _
    ·
      obtain ⟨rfl, rfl⟩ := hr20
      replace h := if_f rfl h
      replace H21 : Has B0 S18 [.box b1 [v3, w5], nestA encdom_node dom_node.kids 7 5 v3 ws4 a2.l none, slkA w5 a2.freed] := H21
      have H22 : Has B0 S18 [.box b1 [v3, w5], nestA encdom_node dom_node.kids 7 5 v3 ws4 a2.l none, slkA w5 a2.freed] := H21.sel [0, 1, 2] (by decide) rfl
      refine wpO.val rfl (oper_assign rfl) rfl ?_
      refine wpO.val rfl (oper_assign rfl) rfl ?_
      refine wpO.nil ?_
      refine WpC.seq ?_
      refine WpC.seq ?_
      refine WpC.region (objR2 E) rfl ?_
      refine wpO.val rfl (oper_move rfl) rfl ?_
      refine wpO.val rfl (oper_bin rfl rfl (binD_nn up91)) rfl ?_
      refine wpO.val rfl (oper_move rfl) rfl ?_
      refine wpO.no rfl rfl ?_
      refine wpO.no rfl rfl ?_
      refine wpO.val rfl (oper_pick (b := true) rfl rfl) rfl ?_
      refine wpO.val rfl (oper_move rfl) rfl ?_
      refine wpO.no rfl rfl ?_
      refine wpO.no rfl rfl ?_
      refine wpO.no rfl rfl ?_
      refine wpO.no rfl rfl ?_
      refine wpO.no rfl rfl ?_
      refine wpO.val rfl (oper_pick (b := true) rfl rfl) rfl ?_
      refine wpO.val rfl (oper_move rfl) rfl ?_
      refine wpO.no rfl rfl ?_
      refine wpO.no rfl rfl ?_
      refine wpO.val rfl (oper_pick (b := true) rfl rfl) rfl ?_
      refine wpO.val rfl (oper_move rfl) rfl ?_
      refine wpO.no rfl rfl ?_
      refine wpO.no rfl rfl ?_
      refine wpO.no rfl rfl ?_
      refine wpO.no rfl rfl ?_
      refine wpO.val rfl (oper_pick (b := true) rfl rfl) rfl ?_
      refine wpO.nil ?_
      refine WpC.cond rfl (fun hb => ?_) (fun hb => ?_)
      ·
        refine WpC.seq ?_
        refine WpC.region (objR2 E) rfl ?_
        refine wpO.val rfl (oper_assign rfl) rfl ?_
        refine wpO.nil ?_
        have hr := Option.some.inj h
        subst hr
        exact WpC.ret ⟨_, rfl, rfl, _, _, _, .refl _, (.refl _), ⟨rfl, ws4, w5, rfl⟩, H22.sel [0, 1, 2] (by decide) rfl⟩
      ·
        cases hb
    ·
      obtain ⟨rfl, rfl⟩ := hr20
      replace h := if_t rfl h
      replace H21 : Has B0 S18 [.box b1 [v3, w5], nestA encdom_node dom_node.kids 7 5 v3 ws4 a2.l none, slkA w5 a2.freed] := H21
      have H23 : Has B0 S18 [.box b1 [v3, w5], nestA encdom_node dom_node.kids 7 5 v3 ws4 a2.l none, slkA w5 a2.freed] := H21.sel [0, 1, 2] (by decide) rfl
      refine wpO.val rfl (oper_assign rfl) rfl ?_
      refine wpO.val rfl (oper_assign rfl) rfl ?_
      refine wpO.nil ?_
      refine WpC.seq ?_
      refine WpC.seq ?_
      refine WpC.region (objR2 E) rfl ?_
      refine wpO.val rfl (oper_move rfl) rfl ?_
      refine wpO.val rfl (oper_bin rfl rfl (binD_nn up91)) rfl ?_
      refine wpO.val rfl (oper_move rfl) rfl ?_
      refine wpO.no rfl rfl ?_
      refine wpO.no rfl rfl ?_
      refine wpO.val rfl (oper_pick (b := true) rfl rfl) rfl ?_
      refine wpO.val rfl (oper_move rfl) rfl ?_
      refine wpO.no rfl rfl ?_
      refine wpO.no rfl rfl ?_
      refine wpO.no rfl rfl ?_
      refine wpO.no rfl rfl ?_
      refine wpO.no rfl rfl ?_
      refine wpO.val rfl (oper_pick (b := true) rfl rfl) rfl ?_
      refine wpO.val rfl (oper_move rfl) rfl ?_
      refine wpO.no rfl rfl ?_
      refine wpO.no rfl rfl ?_
      refine wpO.val rfl (oper_pick (b := true) rfl rfl) rfl ?_
      refine wpO.val rfl (oper_move rfl) rfl ?_
      refine wpO.no rfl rfl ?_
      refine wpO.no rfl rfl ?_
      refine wpO.no rfl rfl ?_
      refine wpO.no rfl rfl ?_
      refine wpO.val rfl (oper_pick (b := true) rfl rfl) rfl ?_
      refine wpO.nil ?_
      refine WpC.cond rfl (fun hb => ?_) (fun hb => ?_)
      ·
        refine WpC.seq ?_
        refine WpC.region (objR2 E) rfl ?_
        refine wpO.val rfl (oper_assign rfl) rfl ?_
        refine wpO.nil ?_
        have hr := Option.some.inj h
        subst hr
        exact WpC.ret ⟨_, rfl, rfl, _, _, _, .refl _, (.refl _), ⟨rfl, ws4, w5, rfl⟩, H23.sel [0, 1, 2] (by decide) rfl⟩
      ·
        cases hb
  ·
    obtain ⟨rfl, rfl⟩ := hr13
    replace h := if_t rfl h
    replace H14 : Has B0 S11 [.box b1 [v3, w5], nestA encdom_node dom_node.kids 7 5 v3 ws4 a2.l none, slkA w5 a2.freed] := H14
    have H24 : Has B0 S11 [.box b1 [v3, w5], nestA encdom_node dom_node.kids 7 5 v3 ws4 a2.l none, slkA w5 a2.freed] := H14.sel [0, 1, 2] (by decide) rfl
    refine wpO.val rfl (oper_move rfl) rfl ?_
    refine wpO.val rfl (oper_move rfl) rfl ?_
    obtain ⟨z25, hzz25, h⟩ := bind_some h
    refine wpO.retM (ins := [.box b1 [v3, w5], nestA encdom_node dom_node.kids 7 5 v3 ws4 a2.l none, slkA w5 a2.freed]) (more := []) (H24.sel [0, 1, 2] (by decide) rfl) rfl (oper_callF rfl rfl) (dom_Dom_at_ok E n _ _ _ hzz25 b1 v3 ws4 w5) (.cons (.refl _) (.cons (.refl _) .nil)) rfl ?_
    rintro v26 S27 l28 hr29 H30
    rcases z25 with _ | _
    ·
      obtain ⟨rfl, rfl⟩ := hr29
      replace h := if_f rfl h
      replace H30 : Has B0 S27 [.box b1 [v3, w5], nestA encdom_node dom_node.kids 7 5 v3 ws4 a2.l none, slkA w5 a2.freed] := H30
      have H31 : Has B0 S27 [.box b1 [v3, w5], nestA encdom_node dom_node.kids 7 5 v3 ws4 a2.l none, slkA w5 a2.freed] := H30.sel [0, 1, 2] (by decide) rfl
      refine wpO.val rfl (oper_assign rfl) rfl ?_
      refine wpO.val rfl (oper_assign rfl) rfl ?_
      refine wpO.nil ?_
      refine WpC.seq ?_
      refine WpC.seq ?_
      refine WpC.region (objR2 E) rfl ?_
      refine wpO.val rfl (oper_move rfl) rfl ?_
      obtain ⟨z32, hzz32, h⟩ := bind_some h
      refine wpO.val rfl (oper_eqN H31 (q := 1) rfl hzz32 rfl rfl up91) rfl ?_
      refine wpO.val rfl (oper_move rfl) rfl ?_
      refine wpO.val rfl (oper_move rfl) rfl ?_
      refine wpO.val rfl (oper_bin rfl rfl (binD_nn up91)) rfl ?_
      refine wpO.val rfl (oper_pick (b := false) rfl rfl) rfl ?_
      refine wpO.val rfl (oper_move rfl) rfl ?_
      refine wpO.no rfl rfl ?_
      refine wpO.no rfl rfl ?_
      refine wpO.no rfl rfl ?_
      refine wpO.no rfl rfl ?_
      refine wpO.no rfl rfl ?_
      refine wpO.val rfl (oper_pick (b := true) rfl rfl) rfl ?_
      refine wpO.val rfl (oper_move rfl) rfl ?_
      refine wpO.no rfl rfl ?_
      refine wpO.no rfl rfl ?_
      refine wpO.val rfl (oper_pick (b := true) rfl rfl) rfl ?_
      refine wpO.val rfl (oper_move rfl) rfl ?_
      refine wpO.no rfl rfl ?_
      refine wpO.no rfl rfl ?_
      refine wpO.no rfl rfl ?_
      refine wpO.no rfl rfl ?_
      refine wpO.val rfl (oper_pick (b := true) rfl rfl) rfl ?_
      refine wpO.nil ?_
      refine WpC.cond rfl (fun hb => ?_) (fun hb => ?_)
      ·
        refine WpC.seq ?_
        refine WpC.region (objR2 E) rfl ?_
        refine wpO.val rfl (oper_assign rfl) rfl ?_
        refine wpO.nil ?_
        have hr := Option.some.inj h
        subst hr
        exact WpC.ret ⟨_, rfl, rfl, _, _, _, .refl _, (.refl _), ⟨rfl, ws4, w5, rfl⟩, H31.sel [0, 1, 2] (by decide) rfl⟩
      ·
        cases hb
    ·
      obtain ⟨rfl, rfl⟩ := hr29
      replace h := if_t rfl h
      replace H30 : Has B0 S27 [.box b1 [v3, w5], nestA encdom_node dom_node.kids 7 5 v3 ws4 a2.l none, slkA w5 a2.freed] := H30
      have H33 : Has B0 S27 [.box b1 [v3, w5], nestA encdom_node dom_node.kids 7 5 v3 ws4 a2.l none, slkA w5 a2.freed] := H30.sel [0, 1, 2] (by decide) rfl
      refine wpO.val rfl (oper_assign rfl) rfl ?_
      refine wpO.val rfl (oper_assign rfl) rfl ?_
      refine wpO.nil ?_
      refine WpC.seq ?_
      refine WpC.seq ?_
      refine WpC.region (objR2 E) rfl ?_
      refine wpO.val rfl (oper_move rfl) rfl ?_
      obtain ⟨z34, hzz34, h⟩ := bind_some h
      refine wpO.val rfl (oper_eqN H33 (q := 1) rfl hzz34 rfl rfl up91) rfl ?_
      refine wpO.val rfl (oper_move rfl) rfl ?_
      refine wpO.val rfl (oper_move rfl) rfl ?_
      obtain ⟨z35, hzz35, h⟩ := bind_some h
      refine wpO.val rfl (oper_eqN H33 (q := 1) rfl hzz35 rfl rfl up91) rfl ?_
      refine wpO.val rfl (oper_pick (b := false) rfl rfl) rfl ?_
      refine wpO.val rfl (oper_move rfl) rfl ?_
      refine wpO.val rfl (oper_move rfl) rfl ?_
      refine wpO.val rfl (oper_nilCheckN H33 (q := 1) rfl hzz34 rfl) rfl ?_
      refine wpO.val rfl (oper_nestField H33 (i := 1) rfl hzz34 rfl fo90_1 nz9 rfl) rfl ?_
      refine wpO.nestLoadF H33 rfl (q := 1) rfl hzz34 rfl ag9 rfl rfl rfl ?_
      refine wpO.val rfl (oper_bin rfl rfl binD_seql) rfl ?_
      refine wpO.val rfl (oper_pick (b := false) rfl rfl) rfl ?_
      refine wpO.val rfl (oper_move rfl) rfl ?_
      refine wpO.groupV 3 33 (.d (.bool ((z34.tag == []) || (a7 == 1)))) ?_ ?_
      ·
        rcases Bool.eq_false_or_eq_true ((z34.tag == [])) with hB36 | hB36
        ·
          refine wpO.bool hB36 ?_
          refine wpO.no rfl rfl ?_
          refine wpO.no rfl rfl ?_
          refine wpO.val rfl (oper_pick (b := true) rfl rfl) rfl ?_
          exact wpO.nil ⟨_, rfl, (WeakE.put (WeakE.push rfl (WeakE.push rfl (WeakE.put (.refl _) (Less.eq (by rw [hB36]))))) (Less.eq (by rw [hB36]; rw [Bool.true_or])))⟩
        ·
          refine wpO.bool hB36 ?_
          refine wpO.val rfl (oper_move rfl) rfl ?_
          refine wpO.val rfl (oper_bin rfl rfl binD_eql) rfl ?_
          refine wpO.val rfl (oper_pick (b := false) rfl rfl) rfl ?_
          exact wpO.nil ⟨_, rfl, (WeakE.put (WeakE.push rfl (WeakE.push rfl (WeakE.put (.refl _) (Less.eq (by rw [hB36]))))) (Less.eq (by rw [hB36]; rw [Bool.false_or])))⟩
      ·
        refine wpO.val rfl (oper_move rfl) rfl ?_
        rcases Bool.eq_false_or_eq_true (((z34.tag == []) || (a7 == 1))) with hB37 | hB37
        ·
          replace h := if_t hB37 h
          refine wpO.bool hB37 ?_
          refine wpO.no rfl rfl ?_
          refine wpO.no rfl rfl ?_
          refine wpO.no rfl rfl ?_
          refine wpO.no rfl rfl ?_
          refine wpO.val rfl (oper_pick (b := true) rfl rfl) rfl ?_
          refine wpO.nil ?_
          refine WpC.cond rfl (fun hb => ?_) (fun hb => ?_)
          ·
            refine WpC.seq ?_
            refine WpC.region (objR2 E) rfl ?_
            refine wpO.val rfl (oper_assign rfl) rfl ?_
            refine wpO.nil ?_
            have hr := Option.some.inj h
            subst hr
            exact WpC.ret ⟨_, rfl, rfl, _, _, _, .refl _, (.refl _), ⟨rfl, ws4, w5, rfl⟩, H33.sel [0, 1, 2] (by decide) rfl⟩
          ·
            cases hb
        ·
          replace h := if_f hB37 h
          refine wpO.bool hB37 ?_
          refine wpO.val rfl (oper_move rfl) rfl ?_
          refine wpO.val rfl (oper_move rfl) rfl ?_
          refine wpO.val rfl (oper_move rfl) rfl ?_
          obtain ⟨z38, hzz38, h⟩ := bind_some h
          refine wpO.retM (ins := [.box b1 [v3, w5], nestA encdom_node dom_node.kids 7 5 v3 ws4 a2.l none, slkA w5 a2.freed]) (more := []) (H33.sel [0, 1, 2] (by decide) rfl) rfl (oper_callF rfl rfl) (dom_Dom_within_ok E n _ _ _ _ hzz38 b1 v3 ws4 w5) (.cons (.refl _) (.cons (.refl _) (.cons (.refl _) .nil))) rfl ?_
          rintro _ S39 _ ⟨rfl, rfl⟩ H40
          replace H40 : Has B0 S39 [.box b1 [v3, w5], nestA encdom_node dom_node.kids 7 5 v3 ws4 a2.l none, slkA w5 a2.freed] := H40
          have H41 : Has B0 S39 [.box b1 [v3, w5], nestA encdom_node dom_node.kids 7 5 v3 ws4 a2.l none, slkA w5 a2.freed] := H40.sel [0, 1, 2] (by decide) rfl
          refine wpO.val rfl (oper_pick (b := false) rfl rfl) rfl ?_
          refine wpO.nil ?_
          refine WpC.cond rfl (fun hb42 => ?_) (fun hb42 => ?_)
          ·
            replace h := if_t hb42 h
            refine WpC.seq ?_
            refine WpC.region (objR2 E) rfl ?_
            refine wpO.val rfl (oper_assign rfl) rfl ?_
            refine wpO.nil ?_
            have hr := Option.some.inj h
            subst hr
            exact WpC.ret ⟨_, rfl, rfl, _, _, _, .refl _, (.refl _), ⟨rfl, ws4, w5, rfl⟩, H41.sel [0, 1, 2] (by decide) rfl⟩
          ·
            replace h := if_f hb42 h
            refine WpC.skip ?_
            refine WpC.seq ?_
            refine WpC.region (objR2 E) rfl ?_
            refine wpO.val rfl (oper_move rfl) rfl ?_
            refine wpO.val rfl (oper_move rfl) rfl ?_
            obtain ⟨z43, hzz43, h⟩ := bind_some h
            refine wpO.retM (ins := [.box b1 [v3, w5], nestA encdom_node dom_node.kids 7 5 v3 ws4 a2.l none, slkA w5 a2.freed]) (more := []) (H41.sel [0, 1, 2] (by decide) rfl) rfl (oper_callF rfl rfl) (dom_Dom_leave_ok E n _ _ _ hzz43 b1 v3 ws4 w5) (.cons (.refl _) (.cons (.refl _) .nil)) rfl ?_
            rintro _ S46 _ ⟨rfl, ws44, w45, rfl⟩ H47
            replace H47 : Has B0 S46 [.box b1 [v3, w45], nestA encdom_node dom_node.kids 7 5 v3 ws44 z43.l none, slkA w45 z43.freed] := H47
            have H48 : Has B0 S46 [.box b1 [v3, w45], nestA encdom_node dom_node.kids 7 5 v3 ws44 z43.l none, slkA w45 z43.freed] := H47.sel [0, 1, 2] (by decide) rfl
            refine wpO.nil ?_
            refine WpC.seq ?_
            obtain ⟨z49, hzz49, h⟩ := bind_some h
            obtain ⟨z56, hzz56, h⟩ := bind_some h
            refine WpC.drawP (objR2 E) hmix [[(9, none)], [(9, none)], [(44, some 1)], [(45, some 2)], [(46, some 3)], [(3, none)], [(9, none)], [(49, some 6)], [(50, some 7)], [(51, some 8)], [(52, some 9)], [(48, some 5), (53, some 10)], [(54, some 11)], [(2, none)], [(56, some 13)], [(47, some 4), (55, some 12), (57, some 14)], [(43, some 0)], [(59, some 16)], [(58, some 15), (60, some 17)]] [(1, none), (10, none)] (by kernel_rfl) [14, 15, 18] (by decide) [some (rowPtr v3 (Int.toNat (IntKind.wrap .i64 (a6 - 1))) 0), some (rowPtr v3 (Int.toNat (IntKind.wrap .i64 (a6 - 1))) 0), some (rowPtr v3 (Int.toNat (IntKind.wrap .i64 (a6 - 1))) 0), some (rowPtr v3 (Int.toNat (IntKind.wrap .i64 (a6 - 1))) 5), some (kwAt 5 ws44 (Int.toNat (IntKind.wrap .i64 (a6 - 1)))), some (.d (.int .i64 a8)), some (rowPtr v3 (Int.toNat (IntKind.wrap .i64 (a6 - 1))) 0), some (rowPtr v3 (Int.toNat (IntKind.wrap .i64 (a6 - 1))) 0), some (rowPtr v3 (Int.toNat (IntKind.wrap .i64 (a6 - 1))) 5), some (kwAt 5 ws44 (Int.toNat (IntKind.wrap .i64 (a6 - 1)))), some (.d (.int .i64 ((z49.kids).length : Int))), some (.d (.int .i64 (minI a8 ((z49.kids).length : Int)))), some (.d (.int .i64 (maxI 0 (minI a8 ((z49.kids).length : Int))))), some (.d (.int .i64 a7)), none, none, none, none, none] ?_
            refine ⟨[0, 1, 2, 3, 4, 5, 6, 7, 8, 9, 10, 11, 12, 13], by kernel_rfl, ?_, _, _, rfl, rfl, .step ?_⟩
            ·
              refine .cons rfl rfl rfl (.step ?_) ?_
              ·
                refine wpO.val rfl (oper_move rfl) rfl ?_
                exact wpO.nil ⟨_, _, rfl, fun _ ht => by cases ht; exact ⟨rfl, .refl _⟩⟩
              refine .cons rfl rfl rfl (.step ?_) ?_
              ·
                refine wpO.val rfl (oper_move rfl) rfl ?_
                exact wpO.nil ⟨_, _, rfl, fun _ ht => by cases ht; exact ⟨rfl, .refl _⟩⟩
              refine .cons rfl rfl rfl (.step ?_) ?_
              ·
                refine wpO.val rfl (oper_nilCheckN H48 (q := 1) rfl hzz49 rfl) rfl ?_
                exact wpO.nil ⟨_, _, rfl, fun _ ht => by cases ht; exact ⟨rfl, .refl _⟩⟩
              refine .cons rfl rfl rfl (.step ?_) ?_
              ·
                refine wpO.val rfl (oper_nestField H48 (i := 1) rfl hzz49 rfl fo90_5 nz31 rfl) rfl ?_
                exact wpO.nil ⟨_, _, rfl, fun _ ht => by cases ht; exact ⟨rfl, .refl _⟩⟩
              refine .cons rfl rfl rfl (.step ?_) ?_
              ·
                refine wpO.val rfl (oper_nestLoadK H48 (i := 1) rfl hzz49 rfl ag31) rfl ?_
                exact wpO.nil ⟨_, _, rfl, fun _ ht => by cases ht; exact ⟨rfl, .refl _⟩⟩
              refine .cons rfl rfl rfl (.step ?_) ?_
              ·
                refine wpO.val rfl (oper_move rfl) rfl ?_
                exact wpO.nil ⟨_, _, rfl, fun _ ht => by cases ht; exact ⟨rfl, .refl _⟩⟩
              refine .cons rfl rfl rfl (.step ?_) ?_
              ·
                refine wpO.val rfl (oper_move rfl) rfl ?_
                exact wpO.nil ⟨_, _, rfl, fun _ ht => by cases ht; exact ⟨rfl, .refl _⟩⟩
              refine .cons rfl rfl rfl (.step ?_) ?_
              ·
                refine wpO.val rfl (oper_nilCheckN H48 (q := 1) rfl hzz49 rfl) rfl ?_
                exact wpO.nil ⟨_, _, rfl, fun _ ht => by cases ht; exact ⟨rfl, .refl _⟩⟩
              refine .cons rfl rfl rfl (.step ?_) ?_
              ·
                refine wpO.val rfl (oper_nestField H48 (i := 1) rfl hzz49 rfl fo90_5 nz31 rfl) rfl ?_
                exact wpO.nil ⟨_, _, rfl, fun _ ht => by cases ht; exact ⟨rfl, .refl _⟩⟩
              refine .cons rfl rfl rfl (.step ?_) ?_
              ·
                refine wpO.val rfl (oper_nestLoadK H48 (i := 1) rfl hzz49 rfl ag31) rfl ?_
                exact wpO.nil ⟨_, _, rfl, fun _ ht => by cases ht; exact ⟨rfl, .refl _⟩⟩
              refine .cons rfl rfl rfl (.step ?_) ?_
              ·
                have H69 : Has B0 S46 ([nestA encdom_node dom_node.kids 7 5 v3 ws44 z43.l none] ++ [.box b1 [v3, w45], slkA w45 z43.freed]) := H48.sel [1, 0, 2] (by decide) rfl
                replace H69 : Has B0 S46 [nestA encdom_node dom_node.kids 7 5 v3 ws44 z43.l none, .box b1 [v3, w45], slkA w45 z43.freed] := H69
                have H70 := Has.take H69 (idx_some hzz49).2
                refine wpO.val rfl (oper_lenS H70 (i := 0) rfl rfl es31) rfl ?_
                exact wpO.nil ⟨_, _, rfl, fun _ ht => by cases ht; exact ⟨rfl, .refl _⟩⟩
              refine .cons rfl rfl rfl (.step ?_) ?_
              ·
                refine wpO.val rfl (oper_min rfl rfl) rfl ?_
                exact wpO.nil ⟨_, _, rfl, fun _ ht => by cases ht; exact ⟨rfl, .refl _⟩⟩
              refine .cons rfl rfl rfl (.step ?_) ?_
              ·
                refine wpO.val rfl (oper_max rfl rfl) rfl ?_
                exact wpO.nil ⟨_, _, rfl, fun _ ht => by cases ht; exact ⟨rfl, .refl _⟩⟩
              refine .cons rfl rfl rfl (.step ?_) ?_
              ·
                refine wpO.val rfl (oper_move rfl) rfl ?_
                exact wpO.nil ⟨_, _, rfl, fun _ ht => by cases ht; exact ⟨rfl, .refl _⟩⟩
              exact .nil
            refine wpO.rawBuild (vs := [(.d (.int .i64 a7))]) (cs := [[(.d (.int .i64 a7))]]) H48 rfl rw31R2 el31 as3 zo3 sz3 rfl (by decide) (.cons rfl rfl .nil) rfl rfl rfl (fun v69 S70 H71 => ?_)
            have H72 : Has B0 S70 [rawA 1 1 v69 [(.d (.int .i64 a7))], .box b1 [v3, w45], nestA encdom_node dom_node.kids 7 5 v3 ws44 z43.l none, slkA w45 z43.freed] := H71.sel [0, 1, 2, 3] (by decide) rfl
            refine wpO.nil ⟨_, _, _, rfl, (fun _ ht => by cases ht; rfl), [some (rowPtr v3 (Int.toNat (IntKind.wrap .i64 (a6 - 1))) 0), some (rowPtr v3 (Int.toNat (IntKind.wrap .i64 (a6 - 1))) 0), some (rowPtr v3 (Int.toNat (IntKind.wrap .i64 (a6 - 1))) 0), some (rowPtr v3 (Int.toNat (IntKind.wrap .i64 (a6 - 1))) 5), some (kwAt 5 ws44 (Int.toNat (IntKind.wrap .i64 (a6 - 1)))), some (.d (.int .i64 a8)), some (rowPtr v3 (Int.toNat (IntKind.wrap .i64 (a6 - 1))) 0), some (rowPtr v3 (Int.toNat (IntKind.wrap .i64 (a6 - 1))) 0), some (rowPtr v3 (Int.toNat (IntKind.wrap .i64 (a6 - 1))) 5), some (kwAt 5 ws44 (Int.toNat (IntKind.wrap .i64 (a6 - 1)))), some (.d (.int .i64 ((z49.kids).length : Int))), some (.d (.int .i64 (minI a8 ((z49.kids).length : Int)))), some (.d (.int .i64 (maxI 0 (minI a8 ((z49.kids).length : Int))))), some (.d (.int .i64 a7)), some v69, none, none, none, none], (.old (.refl _) (.old (.refl _) (.old (.refl _) (.old (.refl _) (.old (.refl _) (.old (.refl _) (.old (.refl _) (.old (.refl _) (.old (.refl _) (.old (.refl _) (.old (.refl _) (.old (.refl _) (.old (.refl _) (.old (.refl _) (.new (.new (.new (.new (.new .nil))))))))))))))))))), (fun _ ht => by cases ht; exact ⟨_, rfl, .refl _⟩), ?_⟩
            refine ⟨[0, 1, 2, 3, 4, 5, 6, 7, 8, 9, 10, 11, 12], by kernel_rfl, ?_, _, _, rfl, rfl, .step ?_⟩
            ·
              refine .cons rfl rfl rfl (.step ?_) ?_
              ·
                refine wpO.val rfl (oper_move rfl) rfl ?_
                exact wpO.nil ⟨_, _, rfl, fun _ ht => by cases ht; exact ⟨rfl, .refl _⟩⟩
              refine .cons rfl rfl rfl (.step ?_) ?_
              ·
                refine wpO.val rfl (oper_move rfl) rfl ?_
                exact wpO.nil ⟨_, _, rfl, fun _ ht => by cases ht; exact ⟨rfl, .refl _⟩⟩
              refine .cons rfl rfl rfl (.step ?_) ?_
              ·
                refine wpO.val rfl (oper_nilCheckN H72 (q := 2) rfl hzz49 rfl) rfl ?_
                exact wpO.nil ⟨_, _, rfl, fun _ ht => by cases ht; exact ⟨rfl, .refl _⟩⟩
              refine .cons rfl rfl rfl (.step ?_) ?_
              ·
                refine wpO.val rfl (oper_nestField H72 (i := 2) rfl hzz49 rfl fo90_5 nz31 rfl) rfl ?_
                exact wpO.nil ⟨_, _, rfl, fun _ ht => by cases ht; exact ⟨rfl, .refl _⟩⟩
              refine .cons rfl rfl rfl (.step ?_) ?_
              ·
                refine wpO.val rfl (oper_nestLoadK H72 (i := 2) rfl hzz49 rfl ag31) rfl ?_
                exact wpO.nil ⟨_, _, rfl, fun _ ht => by cases ht; exact ⟨rfl, .refl _⟩⟩
              refine .cons rfl rfl rfl (.step ?_) ?_
              ·
                refine wpO.val rfl (oper_move rfl) rfl ?_
                exact wpO.nil ⟨_, _, rfl, fun _ ht => by cases ht; exact ⟨rfl, .refl _⟩⟩
              refine .cons rfl rfl rfl (.step ?_) ?_
              ·
                refine wpO.val rfl (oper_move rfl) rfl ?_
                exact wpO.nil ⟨_, _, rfl, fun _ ht => by cases ht; exact ⟨rfl, .refl _⟩⟩
              refine .cons rfl rfl rfl (.step ?_) ?_
              ·
                refine wpO.val rfl (oper_nilCheckN H72 (q := 2) rfl hzz49 rfl) rfl ?_
                exact wpO.nil ⟨_, _, rfl, fun _ ht => by cases ht; exact ⟨rfl, .refl _⟩⟩
              refine .cons rfl rfl rfl (.step ?_) ?_
              ·
                refine wpO.val rfl (oper_nestField H72 (i := 2) rfl hzz49 rfl fo90_5 nz31 rfl) rfl ?_
                exact wpO.nil ⟨_, _, rfl, fun _ ht => by cases ht; exact ⟨rfl, .refl _⟩⟩
              refine .cons rfl rfl rfl (.step ?_) ?_
              ·
                refine wpO.val rfl (oper_nestLoadK H72 (i := 2) rfl hzz49 rfl ag31) rfl ?_
                exact wpO.nil ⟨_, _, rfl, fun _ ht => by cases ht; exact ⟨rfl, .refl _⟩⟩
              refine .cons rfl rfl rfl (.step ?_) ?_
              ·
                have H73 : Has B0 S70 ([nestA encdom_node dom_node.kids 7 5 v3 ws44 z43.l none] ++ [rawA 1 1 v69 [(.d (.int .i64 a7))], .box b1 [v3, w45], slkA w45 z43.freed]) := H72.sel [2, 0, 1, 3] (by decide) rfl
                replace H73 : Has B0 S70 [nestA encdom_node dom_node.kids 7 5 v3 ws44 z43.l none, rawA 1 1 v69 [(.d (.int .i64 a7))], .box b1 [v3, w45], slkA w45 z43.freed] := H73
                have H74 := Has.take H73 (idx_some hzz49).2
                refine wpO.val rfl (oper_lenS H74 (i := 0) rfl rfl es31) rfl ?_
                exact wpO.nil ⟨_, _, rfl, fun _ ht => by cases ht; exact ⟨rfl, .refl _⟩⟩
              refine .cons rfl rfl rfl (.step ?_) ?_
              ·
                refine wpO.val rfl (oper_min rfl rfl) rfl ?_
                exact wpO.nil ⟨_, _, rfl, fun _ ht => by cases ht; exact ⟨rfl, .refl _⟩⟩
              refine .cons rfl rfl rfl (.step ?_) ?_
              ·
                refine wpO.val rfl (oper_max rfl rfl) rfl ?_
                exact wpO.nil ⟨_, _, rfl, fun _ ht => by cases ht; exact ⟨rfl, .refl _⟩⟩
              exact .nil
            have H73 : Has B0 S70 ([nestA encdom_node dom_node.kids 7 5 v3 ws44 z43.l none] ++ [rawA 1 1 v69 [(.d (.int .i64 a7))], .box b1 [v3, w45], slkA w45 z43.freed]) := H72.sel [2, 0, 1, 3] (by decide) rfl
            replace H73 : Has B0 S70 [nestA encdom_node dom_node.kids 7 5 v3 ws44 z43.l none, rawA 1 1 v69 [(.d (.int .i64 a7))], .box b1 [v3, w45], slkA w45 z43.freed] := H73
            have H74 := Has.take H73 (idx_some hzz49).2
            have H75 : Has B0 S70 [slkA (kwAt 5 ws44 (Int.toNat (IntKind.wrap .i64 (a6 - 1)))) z49.kids, rawA 1 1 v69 [(.d (.int .i64 a7))], .box b1 [v3, w45], nestA encdom_node dom_node.kids 7 5 v3 ws44 z43.l (some (Int.toNat (IntKind.wrap .i64 (a6 - 1)))), slkA w45 z43.freed] := H74.sel [0, 2, 3, 1, 4] (by decide) rfl
            refine wpO.retM (ins := [rawA 1 1 v69 [(.d (.int .i64 a7))], slkA (kwAt 5 ws44 (Int.toNat (IntKind.wrap .i64 (a6 - 1)))) z49.kids]) (more := [.box b1 [v3, w45], nestA encdom_node dom_node.kids 7 5 v3 ws44 z43.l (some (Int.toNat (IntKind.wrap .i64 (a6 - 1)))), slkA w45 z43.freed]) (H75.sel [1, 0, 2, 3, 4] (by decide) rfl) rfl (oper_callF rfl rfl) (SpecM.ins E.insp hzz56) (.cons (.refl _) (.cons (.refl _) (.cons (.refl _) .nil))) rfl ?_
            rintro v76 S77 _ rfl H78
            replace H78 : Has B0 S77 [slkA v76 z56, .box b1 [v3, w45], nestA encdom_node dom_node.kids 7 5 v3 ws44 z43.l (some (Int.toNat (IntKind.wrap .i64 (a6 - 1)))), slkA w45 z43.freed] := H78
            have H79 : Has B0 S77 [slkA v76 z56, .box b1 [v3, w45], nestA encdom_node dom_node.kids 7 5 v3 ws44 z43.l (some (Int.toNat (IntKind.wrap .i64 (a6 - 1)))), slkA w45 z43.freed] := H78.sel [0, 1, 2, 3] (by decide) rfl
            refine wpO.nil ⟨_, _, _, rfl, (fun _ ht => by cases ht; rfl), [some (rowPtr v3 (Int.toNat (IntKind.wrap .i64 (a6 - 1))) 0), some (rowPtr v3 (Int.toNat (IntKind.wrap .i64 (a6 - 1))) 0), some (rowPtr v3 (Int.toNat (IntKind.wrap .i64 (a6 - 1))) 0), some (rowPtr v3 (Int.toNat (IntKind.wrap .i64 (a6 - 1))) 5), some (kwAt 5 ws44 (Int.toNat (IntKind.wrap .i64 (a6 - 1)))), some (.d (.int .i64 a8)), some (rowPtr v3 (Int.toNat (IntKind.wrap .i64 (a6 - 1))) 0), some (rowPtr v3 (Int.toNat (IntKind.wrap .i64 (a6 - 1))) 0), some (rowPtr v3 (Int.toNat (IntKind.wrap .i64 (a6 - 1))) 5), some (kwAt 5 ws44 (Int.toNat (IntKind.wrap .i64 (a6 - 1)))), some (.d (.int .i64 ((z49.kids).length : Int))), some (.d (.int .i64 (minI a8 ((z49.kids).length : Int)))), some (.d (.int .i64 (maxI 0 (minI a8 ((z49.kids).length : Int))))), some (.d (.int .i64 a7)), some v69, some v76, some (rowPtr v3 (Int.toNat (IntKind.wrap .i64 (a6 - 1))) 0), some (rowPtr v3 (Int.toNat (IntKind.wrap .i64 (a6 - 1))) 5), none], (.old (.refl _) (.old (.refl _) (.old (.refl _) (.old (.refl _) (.old (.refl _) (.old (.refl _) (.old (.refl _) (.old (.refl _) (.old (.refl _) (.old (.refl _) (.old (.refl _) (.old (.refl _) (.old (.refl _) (.old (.refl _) (.old (.refl _) (.new (.new (.new (.new .nil))))))))))))))))))), (fun _ ht => by cases ht; exact ⟨_, rfl, .refl _⟩), ?_⟩
            refine ⟨[0, 16, 17], by kernel_rfl, ?_, _, _, rfl, rfl, .step ?_⟩
            ·
              refine .cons rfl rfl rfl (.step ?_) ?_
              ·
                refine wpO.val rfl (oper_move rfl) rfl ?_
                exact wpO.nil ⟨_, _, rfl, fun _ ht => by cases ht; exact ⟨rfl, .refl _⟩⟩
              refine .cons rfl rfl rfl (.step ?_) ?_
              ·
                refine wpO.val rfl (oper_nilCheckN H79 (q := 2) rfl hzz49 rfl) rfl ?_
                exact wpO.nil ⟨_, _, rfl, fun _ ht => by cases ht; exact ⟨rfl, .refl _⟩⟩
              refine .cons rfl rfl rfl (.step ?_) ?_
              ·
                refine wpO.val rfl (oper_nestField H79 (i := 2) rfl hzz49 rfl fo90_5 nz31 rfl) rfl ?_
                exact wpO.nil ⟨_, _, rfl, fun _ ht => by cases ht; exact ⟨rfl, .refl _⟩⟩
              exact .nil
            have H83 : Has B0 S77 ([slkA v76 z56, nestA encdom_node dom_node.kids 7 5 v3 ws44 z43.l (some (Int.toNat (IntKind.wrap .i64 (a6 - 1))))] ++ [.box b1 [v3, w45], slkA w45 z43.freed]) := H79.sel [0, 2, 1, 3] (by decide) rfl
            replace H83 : Has B0 S77 [slkA v76 z56, nestA encdom_node dom_node.kids 7 5 v3 ws44 z43.l (some (Int.toNat (IntKind.wrap .i64 (a6 - 1)))), .box b1 [v3, w45], slkA w45 z43.freed] := H83
            refine wpO.nestStoreK (z' := (dom_node.mk z49.lives z49.tag z49.key z49.text z49.attrs z56 z49.parent)) (c := .sl ((z56).map (D.int .i64)) false) H83 rfl hzz49 (.inr rfl) rfl rfl sz31 as31 rfl rfl rfl (fun ws82 S80 H81 => ?_)
            have H84 : Has B0 S80 [.box b1 [v3, w45], nestA encdom_node dom_node.kids 7 5 v3 ws82 (setI z43.l (IntKind.wrap .i64 (a6 - 1)) (dom_node.mk z49.lives z49.tag z49.key z49.text z49.attrs z56 z49.parent)) none, slkA w45 z43.freed] := H81.sel [1, 0, 2] (by decide) rfl
            refine wpO.nil ⟨_, .any, _, rfl, (fun _ ht => by cases ht), [some (rowPtr v3 (Int.toNat (IntKind.wrap .i64 (a6 - 1))) 0), some (rowPtr v3 (Int.toNat (IntKind.wrap .i64 (a6 - 1))) 0), some (rowPtr v3 (Int.toNat (IntKind.wrap .i64 (a6 - 1))) 0), some (rowPtr v3 (Int.toNat (IntKind.wrap .i64 (a6 - 1))) 5), some (kwAt 5 ws44 (Int.toNat (IntKind.wrap .i64 (a6 - 1)))), some (.d (.int .i64 a8)), some (rowPtr v3 (Int.toNat (IntKind.wrap .i64 (a6 - 1))) 0), some (rowPtr v3 (Int.toNat (IntKind.wrap .i64 (a6 - 1))) 0), some (rowPtr v3 (Int.toNat (IntKind.wrap .i64 (a6 - 1))) 5), some (kwAt 5 ws44 (Int.toNat (IntKind.wrap .i64 (a6 - 1)))), some (.d (.int .i64 ((z49.kids).length : Int))), some (.d (.int .i64 (minI a8 ((z49.kids).length : Int)))), some (.d (.int .i64 (maxI 0 (minI a8 ((z49.kids).length : Int))))), some (.d (.int .i64 a7)), some v69, some v76, some (rowPtr v3 (Int.toNat (IntKind.wrap .i64 (a6 - 1))) 0), some (rowPtr v3 (Int.toNat (IntKind.wrap .i64 (a6 - 1))) 5), some .any], (.old (.refl _) (.old (.refl _) (.old (.refl _) (.old (.refl _) (.old (.refl _) (.old (.refl _) (.old (.refl _) (.old (.refl _) (.old (.refl _) (.old (.refl _) (.old (.refl _) (.old (.refl _) (.old (.refl _) (.old (.refl _) (.old (.refl _) (.old (.refl _) (.old (.refl _) (.old (.refl _) (.new .nil))))))))))))))))))), (fun _ ht => by cases ht), ?_⟩
            refine ⟨[], by kernel_rfl, ?_, _, rfl, ?_⟩
            ·
              exact .nil
            refine WpC.seq ?_
            refine WpC.region (objR2 E) rfl ?_
            refine wpO.val rfl (oper_move rfl) rfl ?_
            refine wpO.val rfl (oper_move rfl) rfl ?_
            obtain ⟨z85, hzz85, h⟩ := bind_some h
            refine wpO.val rfl (oper_nilCheckN H84 (q := 1) rfl hzz85 rfl) rfl ?_
            refine wpO.val rfl (oper_nestField H84 (i := 1) rfl hzz85 rfl fo90_6 nz3 rfl) rfl ?_
            have H89 : Has B0 S80 ([nestA encdom_node dom_node.kids 7 5 v3 ws82 (setI z43.l (IntKind.wrap .i64 (a6 - 1)) (dom_node.mk z49.lives z49.tag z49.key z49.text z49.attrs z56 z49.parent)) none] ++ [.box b1 [v3, w45], slkA w45 z43.freed]) := H84.sel [1, 0, 2] (by decide) rfl
            replace H89 : Has B0 S80 [nestA encdom_node dom_node.kids 7 5 v3 ws82 (setI z43.l (IntKind.wrap .i64 (a6 - 1)) (dom_node.mk z49.lives z49.tag z49.key z49.text z49.attrs z56 z49.parent)) none, .box b1 [v3, w45], slkA w45 z43.freed] := H89
            refine wpO.nestStoreF (z' := (dom_node.mk z85.lives z85.tag z85.key z85.text z85.attrs z85.kids a6)) H89 rfl hzz85 rfl rfl rfl rfl (.refl _) sz3 as3 rfl rfl rfl rfl rfl (fun ws88 S86 H87 => ?_)
            have H90 : Has B0 S86 [.box b1 [v3, w45], nestA encdom_node dom_node.kids 7 5 v3 ws88 (setI (setI z43.l (IntKind.wrap .i64 (a6 - 1)) (dom_node.mk z49.lives z49.tag z49.key z49.text z49.attrs z56 z49.parent)) (IntKind.wrap .i64 (a7 - 1)) (dom_node.mk z85.lives z85.tag z85.key z85.text z85.attrs z85.kids a6)) none, slkA w45 z43.freed] := H87.sel [1, 0, 2] (by decide) rfl
            refine wpO.nil ?_
            refine WpC.seq ?_
            refine WpC.region (objR2 E) rfl ?_
            refine wpO.val rfl (oper_assign rfl) rfl ?_
            refine wpO.nil ?_
            have hr := Option.some.inj h
            subst hr
            exact WpC.ret ⟨_, rfl, rfl, _, _, _, .refl _, (.refl _), ⟨rfl, ws88, w45, rfl⟩, H90.sel [0, 1, 2] (by decide) rfl⟩
theorem slices_Clone__api_Attr_api_Attr__ok (n : Nat) (a1 : (List Attr)) (r : (List Attr)) (h : slices_Clone__api_Attr_api_Attr_ n a1 = some r) : SpecC R cfg.P 66 [(.sl ((a1).map encAttr) false)] (.d (.sl ((r).map encAttr) false)) := by
  unfold slices_Clone__api_Attr_api_Attr_ at h
  refine SpecC.of_wp E.obj.toObjOk (C := cfg) Try.func66 rfl nm66 rfl ?_
  have H0 : Has pureSt pureSt [] := Has.pure
  refine WpC.seq ?_
  refine WpC.region E.obj rfl ?_
  refine wpO.val rfl (oper_assign rfl) rfl ?_
  refine wpO.nil ?_
  refine WpC.seq ?_
  refine WpC.seq ?_
  refine WpC.region E.obj rfl ?_
  refine wpO.val rfl (oper_move rfl) rfl ?_
  refine wpO.eqNil rfl rfl rfl us36s rfl (fun bb hbb => ?_)
  refine wpO.nil ?_
  refine WpC.cond rfl (fun hb => ?_) (fun hb => ?_)
  · have e := map_nil (hbb hb)
    subst e
    have hr := (app_some h).2
    subst hr
    refine WpC.seq ?_
    refine WpC.region E.obj rfl ?_
    refine wpO.val rfl (oper_assign rfl) rfl ?_
    refine wpO.nil ?_
    exact WpC.ret ⟨_, rfl, rfl, end1 (ArgsC.consW rfl (.nils false) .nil)⟩
  · refine WpC.skip ?_
    refine WpC.seq ?_
    refine WpC.region E.obj rfl ?_
    refine wpO.val rfl (oper_buildSlice0 rw36 el36 ag54) rfl ?_
    refine wpO.val rfl (oper_move rfl) rfl ?_
    have H1 := H0.tightG (([] : (List Attr)).map encAttr)
    refine wpO.append (xs := ([] : (List Attr)).map encAttr) (ys := (a1).map encAttr) (zs := (r).map encAttr) H1 rfl rfl rfl (i := 0) rfl rfl rw36 os36 el36 (app_bound (enc := encAttr) h) nb54 rfl (sizes_map (enc := encAttr) (fun z => (Attr.len z).trans sz54.symm) _) (sizes_map (enc := encAttr) (fun z => (Attr.len z).trans sz54.symm) _) zk54 rfl (app_eq h) (fun v2 S2 H2 => ?_)
    refine wpO.val rfl (oper_assign rfl) rfl ?_
    refine wpO.nil ?_
    exact WpC.ret ⟨_, rfl, rfl, end1 (ArgsC.grow H2 (i := 0) rfl .nil)⟩
set_option maxRecDepth 20000 in
set_option maxHeartbeats 4000000 in
theorem dom_Dom_Attrs_ok (n : Nat) (a2 : dom_Dom) (a6 : Int) (a7 : (List Attr)) (r : (Bool × dom_Dom)) (h : dom_Dom_Attrs n a2 a6 a7 = some r) (b1 : Nat) (v3 : AV) (ws4 : List (List AV)) (w5 : AV) : SpecM R cfg.P 29 [.ptr b1 0 0, .d (.int .i64 a6), .d (.sl ((a7).map encAttr) false)] [.box b1 [v3, w5], nestA encdom_node dom_node.kids 7 5 v3 ws4 a2.l none, slkA w5 a2.freed] (fun v l => v = .d (.bool r.1) ∧ ∃ dws0 dw0, l = [.box b1 [v3, dw0], nestA encdom_node dom_node.kids 7 5 v3 dws0 r.2.l none, slkA dw0 r.2.freed]) := by
  unfold dom_Dom_Attrs at h
  refine SpecM.of_wp (C := cfg) Try.func29 rfl nm29 rfl (fun B0 S0 H0 => ?_)
  replace H0 : Has B0 S0 [.box b1 [v3, w5], nestA encdom_node dom_node.kids 7 5 v3 ws4 a2.l none, slkA w5 a2.freed] := H0
  refine WpC.seq ?_
  refine WpC.region E.obj rfl ?_
  refine wpO.val rfl (oper_assign rfl) rfl ?_
  refine wpO.nil ?_
  refine WpC.seq ?_
  refine WpC.region E.obj rfl ?_
  refine wpO.val rfl (oper_move rfl) rfl ?_
  refine wpO.val rfl (oper_move rfl) rfl ?_
  obtain ⟨z8, hzz8, h⟩ := bind_some h
  refine wpO.retM (ins := [.box b1 [v3, w5], nestA encdom_node dom_node.kids 7 5 v3 ws4 a2.l none, slkA w5 a2.freed]) (more := []) (H0.sel [0, 1, 2] (by decide) rfl) rfl (oper_callF rfl rfl) (dom_Dom_at_ok E n _ _ _ hzz8 b1 v3 ws4 w5) (.cons (.refl _) (.cons (.refl _) .nil)) rfl ?_
  rintro v9 S10 l11 hr12 H13
  rcases z8 with _ | _
  ·
    obtain ⟨rfl, rfl⟩ := hr12
    replace h := if_f rfl h
    replace H13 : Has B0 S10 [.box b1 [v3, w5], nestA encdom_node dom_node.kids 7 5 v3 ws4 a2.l none, slkA w5 a2.freed] := H13
    have H14 : Has B0 S10 [.box b1 [v3, w5], nestA encdom_node dom_node.kids 7 5 v3 ws4 a2.l none, slkA w5 a2.freed] := H13.sel [0, 1, 2] (by decide) rfl
    refine wpO.val rfl (oper_assign rfl) rfl ?_
    refine wpO.nil ?_
    refine WpC.seq ?_
    refine WpC.seq ?_
    refine WpC.region E.obj rfl ?_
    refine wpO.val rfl (oper_move rfl) rfl ?_
    refine wpO.val rfl (oper_bin rfl rfl (binD_nn up91)) rfl ?_
    refine wpO.val rfl (oper_move rfl) rfl ?_
    refine wpO.no rfl rfl ?_
    refine wpO.no rfl rfl ?_
    refine wpO.no rfl rfl ?_
    refine wpO.no rfl rfl ?_
    refine wpO.no rfl rfl ?_
    refine wpO.val rfl (oper_pick (b := true) rfl rfl) rfl ?_
    refine wpO.nil ?_
    refine WpC.cond rfl (fun hb => ?_) (fun hb => ?_)
    ·
      refine WpC.seq ?_
      refine WpC.region E.obj rfl ?_
      refine wpO.val rfl (oper_assign rfl) rfl ?_
      refine wpO.nil ?_
      have hr := Option.some.inj h
      subst hr
      exact WpC.ret ⟨_, rfl, rfl, _, _, _, .refl _, (.refl _), ⟨rfl, ws4, w5, rfl⟩, H14.sel [0, 1, 2] (by decide) rfl⟩
    ·
      cases hb
  ·
    obtain ⟨rfl, rfl⟩ := hr12
    replace h := if_t rfl h
    replace H13 : Has B0 S10 [.box b1 [v3, w5], nestA encdom_node dom_node.kids 7 5 v3 ws4 a2.l none, slkA w5 a2.freed] := H13
    have H15 : Has B0 S10 [.box b1 [v3, w5], nestA encdom_node dom_node.kids 7 5 v3 ws4 a2.l none, slkA w5 a2.freed] := H13.sel [0, 1, 2] (by decide) rfl
    refine wpO.val rfl (oper_assign rfl) rfl ?_
    refine wpO.nil ?_
    refine WpC.seq ?_
    refine WpC.seq ?_
    refine WpC.region E.obj rfl ?_
    refine wpO.val rfl (oper_move rfl) rfl ?_
    obtain ⟨z16, hzz16, h⟩ := bind_some h
    refine wpO.val rfl (oper_eqN H15 (q := 1) rfl hzz16 rfl rfl up91) rfl ?_
    refine wpO.val rfl (oper_move rfl) rfl ?_
    refine wpO.val rfl (oper_move rfl) rfl ?_
    refine wpO.val rfl (oper_nilCheckN H15 (q := 1) rfl hzz16 rfl) rfl ?_
    refine wpO.val rfl (oper_nestField H15 (i := 1) rfl hzz16 rfl fo90_1 nz9 rfl) rfl ?_
    refine wpO.nestLoadF H15 rfl (q := 1) rfl hzz16 rfl ag9 rfl rfl rfl ?_
    refine wpO.val rfl (oper_bin rfl rfl binD_seql) rfl ?_
    refine wpO.val rfl (oper_pick (b := false) rfl rfl) rfl ?_
    refine wpO.nil ?_
    refine WpC.cond rfl (fun hb17 => ?_) (fun hb17 => ?_)
    ·
      replace h := if_t hb17 h
      refine WpC.seq ?_
      refine WpC.region E.obj rfl ?_
      refine wpO.val rfl (oper_assign rfl) rfl ?_
      refine wpO.nil ?_
      have hr := Option.some.inj h
      subst hr
      exact WpC.ret ⟨_, rfl, rfl, _, _, _, .refl _, (.refl _), ⟨rfl, ws4, w5, rfl⟩, H15.sel [0, 1, 2] (by decide) rfl⟩
    ·
      replace h := if_f hb17 h
      refine WpC.skip ?_
      refine WpC.seq ?_
      refine WpC.region E.obj rfl ?_
      refine wpO.val rfl (oper_move rfl) rfl ?_
      refine wpO.val rfl (oper_move rfl) rfl ?_
      obtain ⟨z18, hzz18, h⟩ := bind_some h
      refine wpO.ret rfl (oper_callF rfl rfl) (slices_Clone__api_Attr_api_Attr__ok E _ _ _ hzz18 _ _ (ArgsC.eq .nil)) rfl ?_
      refine wpO.val rfl (oper_nilCheckN H15 (q := 1) rfl hzz16 rfl) rfl ?_
      refine wpO.val rfl (oper_nestField H15 (i := 1) rfl hzz16 rfl fo90_4 nz36 rfl) rfl ?_
      have H22 : Has B0 S10 ([nestA encdom_node dom_node.kids 7 5 v3 ws4 a2.l none] ++ [.box b1 [v3, w5], slkA w5 a2.freed]) := H15.sel [1, 0, 2] (by decide) rfl
      replace H22 : Has B0 S10 [nestA encdom_node dom_node.kids 7 5 v3 ws4 a2.l none, .box b1 [v3, w5], slkA w5 a2.freed] := H22
      refine wpO.nestStoreF (z' := (dom_node.mk z16.lives z16.tag z16.key z16.text z18 z16.kids z16.parent)) H22 rfl hzz16 rfl rfl rfl rfl (.refl _) sz36 as36 rfl rfl rfl rfl rfl (fun ws21 S19 H20 => ?_)
      have H23 : Has B0 S19 [.box b1 [v3, w5], nestA encdom_node dom_node.kids 7 5 v3 ws21 (setI a2.l (IntKind.wrap .i64 (a6 - 1)) (dom_node.mk z16.lives z16.tag z16.key z16.text z18 z16.kids z16.parent)) none, slkA w5 a2.freed] := H20.sel [1, 0, 2] (by decide) rfl
      refine wpO.nil ?_
      refine WpC.seq ?_
      refine WpC.region E.obj rfl ?_
      refine wpO.val rfl (oper_assign rfl) rfl ?_
      refine wpO.nil ?_
      have hr := Option.some.inj h
      subst hr
      exact WpC.ret ⟨_, rfl, rfl, _, _, _, .refl _, (.refl _), ⟨rfl, ws21, w5, rfl⟩, H23.sel [0, 1, 2] (by decide) rfl⟩
set_option maxRecDepth 20000 in
set_option maxHeartbeats 4000000 in
theorem patch_Put_ok : ∀ (n : Nat) (a2 : dom_Dom) (a6 : Tree) (r : (Int × dom_Dom)), patch_Put n a2 a6 = some r → ∀ (b1 : Nat) (v3 : AV) (ws4 : List (List AV)) (w5 : AV), SpecM R cfg.P 39 [.ptr b1 0 0, .d (encTree a6)] [.box b1 [v3, w5], nestA encdom_node dom_node.kids 7 5 v3 ws4 a2.l none, slkA w5 a2.freed] (fun v l => v = .d (.int .i64 r.1) ∧ ∃ dv0 dws0 dw0, l = [.box b1 [dv0, dw0], nestA encdom_node dom_node.kids 7 5 dv0 dws0 r.2.l none, slkA dw0 r.2.freed])
  | 0, a2, a6, r, h, b1, v3, ws4, w5 => by simp [patch_Put] at h
  | n + 1, a2, a6, r, h, b1, v3, ws4, w5 => by
    have ih := patch_Put_ok n
    unfold patch_Put at h
    refine SpecM.of_wp (C := cfg) Try.func39 rfl nm39 rfl (fun B0 S0 H0 => ?_)
    replace H0 : Has B0 S0 [.box b1 [v3, w5], nestA encdom_node dom_node.kids 7 5 v3 ws4 a2.l none, slkA w5 a2.freed] := H0
    refine WpC.seq ?_
    refine WpC.region E.obj rfl ?_
    refine wpO.box H0 rfl rfl rfl (Tree.cellsA _) rfl (fun b7 S8 H9 => ?_)
    refine wpO.val rfl (oper_assign rfl) rfl ?_
    refine wpO.nil ?_
    refine WpC.seq ?_
    refine WpC.seq ?_
    refine WpC.region E.obj rfl ?_
    refine wpO.val rfl (oper_fieldAddr rfl fo39_0 nz9 rfl) rfl ?_
    refine wpO.val rfl (oper_load H9 (i := 0) rfl rfl (part_one ag9 rfl)) rfl ?_
    refine wpO.val rfl (oper_bin rfl rfl binD_seql) rfl ?_
    refine wpO.nil ?_
    refine WpC.cond rfl (fun hb10 => ?_) (fun hb10 => ?_)
    ·
      replace h := if_t hb10 h
      refine WpC.seq ?_
      refine WpC.region E.obj rfl ?_
      refine wpO.val rfl (oper_move rfl) rfl ?_
      refine wpO.val rfl (oper_fieldAddr rfl fo39_2 nz9 rfl) rfl ?_
      refine wpO.val rfl (oper_load H9 (i := 0) rfl rfl (part_one ag9 rfl)) rfl ?_
      obtain ⟨z11, hzz11, h⟩ := bind_some h
      refine wpO.retM (ins := [.box b1 [v3, w5], nestA encdom_node dom_node.kids 7 5 v3 ws4 a2.l none, slkA w5 a2.freed]) (more := [.box b7 [(.d (.str a6.Tag)), (.d (.str a6.Key)), (.d (.str a6.Text)), (.d (.sl ((a6.Attrs).map encAttr) false)), (.d (.sl ((a6.Kids).map encTree) false))]]) (H9.sel [1, 2, 3, 0] (by decide) rfl) rfl (oper_callF rfl rfl) (dom_Dom_Text_ok E n _ _ _ hzz11 b1 v3 ws4 w5) (.cons (.refl _) (.cons (.refl _) .nil)) rfl ?_
      rintro _ S15 _ ⟨rfl, v12, ws13, w14, rfl⟩ H16
      replace H16 : Has B0 S15 [.box b1 [v12, w14], nestA encdom_node dom_node.kids 7 5 v12 ws13 z11.2.l none, slkA w14 z11.2.freed, .box b7 [(.d (.str a6.Tag)), (.d (.str a6.Key)), (.d (.str a6.Text)), (.d (.sl ((a6.Attrs).map encAttr) false)), (.d (.sl ((a6.Kids).map encTree) false))]] := H16
      have H17 : Has B0 S15 [.box b7 [(.d (.str a6.Tag)), (.d (.str a6.Key)), (.d (.str a6.Text)), (.d (.sl ((a6.Attrs).map encAttr) false)), (.d (.sl ((a6.Kids).map encTree) false))], .box b1 [v12, w14], nestA encdom_node dom_node.kids 7 5 v12 ws13 z11.2.l none, slkA w14 z11.2.freed] := H16.sel [3, 0, 1, 2] (by decide) rfl
      refine wpO.val rfl (oper_assign rfl) rfl ?_
      refine wpO.nil ?_
      have hr := Option.some.inj h
      subst hr
      exact WpC.ret ⟨_, rfl, rfl, _, _, _, .refl _, (.refl _), ⟨rfl, v12, ws13, w14, rfl⟩, H17.sel [1, 2, 3] (by decide) rfl⟩
    ·
      replace h := if_f hb10 h
      refine WpC.skip ?_
      refine WpC.seq ?_
      refine WpC.region E.obj rfl ?_
      refine wpO.val rfl (oper_move rfl) rfl ?_
      refine wpO.val rfl (oper_fieldAddr rfl fo39_0 nz9 rfl) rfl ?_
      refine wpO.val rfl (oper_load H9 (i := 0) rfl rfl (part_one ag9 rfl)) rfl ?_
      refine wpO.val rfl (oper_fieldAddr rfl fo39_1 nz9 rfl) rfl ?_
      refine wpO.val rfl (oper_load H9 (i := 0) rfl rfl (part_one ag9 rfl)) rfl ?_
      obtain ⟨z18, hzz18, h⟩ := bind_some h
      refine wpO.retM (ins := [.box b1 [v3, w5], nestA encdom_node dom_node.kids 7 5 v3 ws4 a2.l none, slkA w5 a2.freed]) (more := [.box b7 [(.d (.str a6.Tag)), (.d (.str a6.Key)), (.d (.str a6.Text)), (.d (.sl ((a6.Attrs).map encAttr) false)), (.d (.sl ((a6.Kids).map encTree) false))]]) (H9.sel [1, 2, 3, 0] (by decide) rfl) rfl (oper_callF rfl rfl) (dom_Dom_Element_ok E n _ _ _ _ hzz18 b1 v3 ws4 w5) (.cons (.refl _) (.cons (.refl _) (.cons (.refl _) .nil))) rfl ?_
      rintro _ S22 _ ⟨rfl, v19, ws20, w21, rfl⟩ H23
      replace H23 : Has B0 S22 [.box b1 [v19, w21], nestA encdom_node dom_node.kids 7 5 v19 ws20 z18.2.l none, slkA w21 z18.2.freed, .box b7 [(.d (.str a6.Tag)), (.d (.str a6.Key)), (.d (.str a6.Text)), (.d (.sl ((a6.Attrs).map encAttr) false)), (.d (.sl ((a6.Kids).map encTree) false))]] := H23
      have H24 : Has B0 S22 [.box b7 [(.d (.str a6.Tag)), (.d (.str a6.Key)), (.d (.str a6.Text)), (.d (.sl ((a6.Attrs).map encAttr) false)), (.d (.sl ((a6.Kids).map encTree) false))], .box b1 [v19, w21], nestA encdom_node dom_node.kids 7 5 v19 ws20 z18.2.l none, slkA w21 z18.2.freed] := H23.sel [3, 0, 1, 2] (by decide) rfl
      refine wpO.val rfl (oper_assign rfl) rfl ?_
      refine wpO.nil ?_
      refine WpC.seq ?_
      refine WpC.region E.obj rfl ?_
      refine wpO.val rfl (oper_move rfl) rfl ?_
      refine wpO.val rfl (oper_move rfl) rfl ?_
      refine wpO.val rfl (oper_fieldAddr rfl fo39_3 nz36 rfl) rfl ?_
      refine wpO.val rfl (oper_load H24 (i := 0) rfl rfl (part_one ag36 rfl)) rfl ?_
      obtain ⟨z25, hzz25, h⟩ := bind_some h
      refine wpO.retM (ins := [.box b1 [v19, w21], nestA encdom_node dom_node.kids 7 5 v19 ws20 z18.2.l none, slkA w21 z18.2.freed]) (more := [.box b7 [(.d (.str a6.Tag)), (.d (.str a6.Key)), (.d (.str a6.Text)), (.d (.sl ((a6.Attrs).map encAttr) false)), (.d (.sl ((a6.Kids).map encTree) false))]]) (H24.sel [1, 2, 3, 0] (by decide) rfl) rfl (oper_callF rfl rfl) (dom_Dom_Attrs_ok E n _ _ _ _ hzz25 b1 v19 ws20 w21) (.cons (.refl _) (.cons (.refl _) (.cons (.refl _) .nil))) rfl ?_
      rintro _ S28 _ ⟨rfl, ws26, w27, rfl⟩ H29
      replace H29 : Has B0 S28 [.box b1 [v19, w27], nestA encdom_node dom_node.kids 7 5 v19 ws26 z25.2.l none, slkA w27 z25.2.freed, .box b7 [(.d (.str a6.Tag)), (.d (.str a6.Key)), (.d (.str a6.Text)), (.d (.sl ((a6.Attrs).map encAttr) false)), (.d (.sl ((a6.Kids).map encTree) false))]] := H29
      have H30 : Has B0 S28 [.box b7 [(.d (.str a6.Tag)), (.d (.str a6.Key)), (.d (.str a6.Text)), (.d (.sl ((a6.Attrs).map encAttr) false)), (.d (.sl ((a6.Kids).map encTree) false))], .box b1 [v19, w27], nestA encdom_node dom_node.kids 7 5 v19 ws26 z25.2.l none, slkA w27 z25.2.freed] := H29.sel [3, 0, 1, 2] (by decide) rfl
      refine wpO.nil ?_
      refine WpC.seq ?_
      refine WpC.seq ?_
      refine WpC.region E.obj rfl ?_
      refine wpO.val rfl (oper_fieldAddr rfl fo39_4 nz37 rfl) rfl ?_
      refine wpO.val rfl (oper_load H30 (i := 0) rfl rfl (part_one ag37 rfl)) rfl ?_
      refine wpO.val rfl (oper_lenL rfl es37) rfl ?_
      refine wpO.val rfl (oper_move rfl) rfl ?_
      refine wpO.nil ?_
      refine WpC.block ?_
      refine WpL.start (B := B0) (α := dom_Dom × AV × (List (List AV)) × AV × Int) (fun k a => patch_Put_l47 n (patch_Put n) a6 z18 k a.1 a.2.2.2.2 = some r) (fun a => [(0, (.ptr b1 0 0)), (5, (.d (.int .i64 z18.1))), (27, (.d (.sl ((a6.Kids).map encTree) false))), (28, (.d (.int .i64 ((a6.Kids).length : Int)))), (29, (.d (.int .i64 a.2.2.2.2)))]) (fun a => [.box b1 [a.2.1, a.2.2.2.1], nestA encdom_node dom_node.kids 7 5 a.2.1 a.2.2.1 a.1.l none, slkA a.2.2.2.1 a.1.freed]) ?_ ?_ n ⟨⟨z25.2, v19, ws26, w27, 0⟩, _, _, S28, .refl _ _, .refl _, (WeakE.cons rfl (.refl _) (WeakE.cons rfl (.refl _) (WeakE.cons rfl (.refl _) (WeakE.cons rfl (.refl _) (WeakE.cons rfl (.refl _) WeakE.nil))))), H30.sel [1, 2, 3] (by decide) rfl, h⟩
      · intro a h; simp [patch_Put_l47] at h
      ·
        intro k47 a S40 H41 h
        obtain ⟨x42, v45, ws43, w44, x46⟩ := a
        replace h : patch_Put_l47 n (patch_Put n) a6 z18 (k47 + 1) x42 x46 = some r := h
        replace H41 : Has B0 S40 [.box b1 [v45, w44], nestA encdom_node dom_node.kids 7 5 v45 ws43 x42.l none, slkA w44 x42.freed] := H41
        unfold patch_Put_l47 at h
        refine WpC.seq ?_
        refine WpC.region E.obj rfl ?_
        refine wpO.val rfl (oper_bin rfl rfl binD_lss) rfl ?_
        refine wpO.nil ?_
        refine WpC.seq ?_
        refine WpC.cond rfl (fun hb48 => ?_) (fun hb48 => ?_)
        ·
          replace h := if_t hb48 h
          refine WpC.skip ?_
          refine WpC.seq ?_
          refine WpC.block ?_
          refine WpC.seq ?_
          refine WpC.region E.obj rfl ?_
          refine wpO.val rfl (oper_move rfl) rfl ?_
          obtain ⟨z49, hzz49, h⟩ := bind_some h
          refine wpO.val rfl (oper_idx rfl rfl (idxAddr (enc := encTree) hzz49 el37 as39 ((Tree.len _).trans sz39.symm))) rfl ?_
          refine wpO.val rfl (oper_loadE rfl (Tree.partW ag39 sz39)) rfl ?_
          refine wpO.alloc H41 rfl ob39 zo39 rfl rfl (fun b50 S51 H52 => ?_)
          refine wpO.val rfl (oper_assign rfl) rfl ?_
          refine wpO.store H52 (i := 0) rfl rfl rfl rfl (Tree.cellsA _) rfl sz39 rfl as39 rfl rfl rfl (fun S53 H54 => ?_)
          refine wpO.nil ?_
          refine WpC.region E.obj rfl ?_
          refine wpO.val rfl (oper_move rfl) rfl ?_
          refine wpO.val rfl (oper_move rfl) rfl ?_
          refine wpO.val rfl (oper_move rfl) rfl ?_
          refine wpO.val rfl (oper_load H54 (i := 0) rfl rfl (part_agg ag39 sz39 rfl)) rfl ?_
          refine wpO.less (Less.agg' (d := encTree z49) (CellsC.eq rfl (CellsC.eq rfl (CellsC.eq rfl (CellsC.eq rfl (CellsC.eq rfl .nil))))) ((Tree.eq _).trans rfl)) ?_
          obtain ⟨z55, hzz55, h⟩ := bind_some h
          refine wpO.retM (ins := [.box b1 [v45, w44], nestA encdom_node dom_node.kids 7 5 v45 ws43 x42.l none, slkA w44 x42.freed]) (more := [.box b50 [(.d (.str z49.Tag)), (.d (.str z49.Key)), (.d (.str z49.Text)), (.d (.sl ((z49.Attrs).map encAttr) false)), (.d (.sl ((z49.Kids).map encTree) false))]]) (H54.sel [1, 2, 3, 0] (by decide) rfl) rfl (oper_callF rfl rfl) (ih _ _ _ hzz55 b1 v45 ws43 w44) (.cons (.refl _) (.cons (.refl _) .nil)) rfl ?_
          rintro _ S59 _ ⟨rfl, v56, ws57, w58, rfl⟩ H60
          replace H60 : Has B0 S59 [.box b1 [v56, w58], nestA encdom_node dom_node.kids 7 5 v56 ws57 z55.2.l none, slkA w58 z55.2.freed, .box b50 [(.d (.str z49.Tag)), (.d (.str z49.Key)), (.d (.str z49.Text)), (.d (.sl ((z49.Attrs).map encAttr) false)), (.d (.sl ((z49.Kids).map encTree) false))]] := H60
          have H61 : Has B0 S59 [.box b50 [(.d (.str z49.Tag)), (.d (.str z49.Key)), (.d (.str z49.Text)), (.d (.sl ((z49.Attrs).map encAttr) false)), (.d (.sl ((z49.Kids).map encTree) false))], .box b1 [v56, w58], nestA encdom_node dom_node.kids 7 5 v56 ws57 z55.2.l none, slkA w58 z55.2.freed] := H60.sel [3, 0, 1, 2] (by decide) rfl
          refine wpO.val rfl (oper_move rfl) rfl ?_
          obtain ⟨z62, hzz62, h⟩ := bind_some h
          refine wpO.retM (ins := [.box b1 [v56, w58], nestA encdom_node dom_node.kids 7 5 v56 ws57 z55.2.l none, slkA w58 z55.2.freed]) (more := [.box b50 [(.d (.str z49.Tag)), (.d (.str z49.Key)), (.d (.str z49.Text)), (.d (.sl ((z49.Attrs).map encAttr) false)), (.d (.sl ((z49.Kids).map encTree) false))]]) (H61.sel [1, 2, 3, 0] (by decide) rfl) rfl (oper_callF rfl rfl) (dom_Dom_Insert_ok E n _ _ _ _ _ hzz62 b1 v56 ws57 w58) (.cons (.refl _) (.cons (.refl _) (.cons (.refl _) (.cons (.refl _) .nil)))) rfl ?_
          rintro _ S65 _ ⟨rfl, ws63, w64, rfl⟩ H66
          replace H66 : Has B0 S65 [.box b1 [v56, w64], nestA encdom_node dom_node.kids 7 5 v56 ws63 z62.2.l none, slkA w64 z62.2.freed, .box b50 [(.d (.str z49.Tag)), (.d (.str z49.Key)), (.d (.str z49.Text)), (.d (.sl ((z49.Attrs).map encAttr) false)), (.d (.sl ((z49.Kids).map encTree) false))]] := H66
          have H67 : Has B0 S65 [.box b50 [(.d (.str z49.Tag)), (.d (.str z49.Key)), (.d (.str z49.Text)), (.d (.sl ((z49.Attrs).map encAttr) false)), (.d (.sl ((z49.Kids).map encTree) false))], .box b1 [v56, w64], nestA encdom_node dom_node.kids 7 5 v56 ws63 z62.2.l none, slkA w64 z62.2.freed] := H66.sel [3, 0, 1, 2] (by decide) rfl
          refine wpO.nil ?_
          refine WpC.region E.obj rfl ?_
          refine wpO.val rfl (oper_bin rfl rfl binD_add) rfl ?_
          refine wpO.val rfl (oper_move rfl) rfl ?_
          refine wpO.nil ?_
          exact ⟨⟨z62.2, v56, ws63, w64, (IntKind.wrap .i64 (x46 + 1))⟩, _, _, S65, .refl _ _, .refl _, (WeakE.cons rfl (.refl _) (WeakE.cons rfl (.refl _) (WeakE.cons rfl (.refl _) (WeakE.cons rfl (.refl _) (WeakE.cons rfl (.refl _) WeakE.nil))))), H67.sel [1, 2, 3] (by decide) rfl, h⟩
        ·
          replace h := if_f hb48 h
          refine WpC.exit ?_
          refine WpC.seq ?_
          refine WpC.region E.obj rfl ?_
          refine wpO.val rfl (oper_move rfl) rfl ?_
          refine wpO.val rfl (oper_assign rfl) rfl ?_
          refine wpO.nil ?_
          have hr := Option.some.inj h
          subst hr
          exact WpC.ret ⟨_, rfl, rfl, _, _, _, .refl _, (.refl _), ⟨rfl, v45, ws43, w44, rfl⟩, H41.sel [0, 1, 2] (by decide) rfl⟩
theorem slices_Clone__int_int__okK (n : Nat) (a1 : List Int) (r : List Int) (h : slices_Clone__int_int_ n a1 = some r) (w : AV) : SpecM R cfg.P 64 [w] [slkA w a1] (fun v l => l = [.row 1 v ((r).map (D.int .i64)), slkA w a1]) := by
  unfold slices_Clone__int_int_ at h
  refine SpecM.of_wp (C := cfgR2) Try.func64 rfl nm64 rfl (fun B0 S0 H0 => ?_)
  refine WpC.seq ?_
  refine WpC.region (objR2 E) rfl ?_
  refine wpO.val rfl (oper_assign rfl) rfl ?_
  refine wpO.nil ?_
  refine WpC.seq ?_
  refine WpC.seq ?_
  refine WpC.region (objR2 E) rfl ?_
  refine wpO.val rfl (oper_move rfl) rfl ?_
  refine wpO.slkEqNil H0 rfl rfl rfl us31s rfl (fun bb hbb hbn => ?_)
  refine wpO.nil ?_
  refine WpC.cond rfl (fun hb => ?_) (fun hb => ?_)
  · have e := hbb hb
    subst e
    have hr := (app_some h).2
    subst hr
    refine WpC.seq ?_
    refine WpC.region (objR2 E) rfl ?_
    refine wpO.val rfl (oper_assign rfl) rfl ?_
    refine wpO.nil ?_
    exact WpC.ret ⟨_, rfl, rfl, _, _, _, .refl _, .refl _, rfl, H0.nilR 1⟩
  · refine WpC.skip ?_
    refine WpC.seq ?_
    refine WpC.region (objR2 E) rfl ?_
    refine wpO.val rfl (oper_buildSlice0R bs31xR2 el31 ag3) rfl ?_
    refine wpO.val rfl (oper_move rfl) rfl ?_
    refine wpO.slkClone H0 rfl (hbn hb) rfl rfl rw31R2 os31R2 el31 sz3 h nb3 rfl zk3R2 rfl (fun v2 S2 H2 => ?_)
    refine wpO.val rfl (oper_assign rfl) rfl ?_
    refine wpO.nil ?_
    exact WpC.ret ⟨_, rfl, rfl, _, _, _, .refl _, .refl _, rfl, H2⟩
set_option maxRecDepth 20000 in
set_option maxHeartbeats 4000000 in
theorem dom_Dom_Kids_ok (n : Nat) (a2 : dom_Dom) (a6 : Int) (r : (List Int)) (h : dom_Dom_Kids n a2 a6 = some r) (b1 : Nat) (v3 : AV) (ws4 : List (List AV)) (w5 : AV) : SpecM R cfg.P 19 [.ptr b1 0 0, .d (.int .i64 a6)] [.box b1 [v3, w5], nestA encdom_node dom_node.kids 7 5 v3 ws4 a2.l none, slkA w5 a2.freed] (fun v l => v = .d (.sl ((r).map (D.int .i64)) false) ∧ l = [.box b1 [v3, w5], nestA encdom_node dom_node.kids 7 5 v3 ws4 a2.l none, slkA w5 a2.freed]) := by
  unfold dom_Dom_Kids at h
  refine SpecM.of_wp (C := cfg) Try.func19 rfl nm19 rfl (fun B0 S0 H0 => ?_)
  replace H0 : Has B0 S0 [.box b1 [v3, w5], nestA encdom_node dom_node.kids 7 5 v3 ws4 a2.l none, slkA w5 a2.freed] := H0
  refine WpC.seq ?_
  refine WpC.region E.obj rfl ?_
  refine wpO.val rfl (oper_assign rfl) rfl ?_
  refine wpO.nil ?_
  refine WpC.seq ?_
  refine WpC.region E.obj rfl ?_
  refine wpO.val rfl (oper_move rfl) rfl ?_
  refine wpO.val rfl (oper_move rfl) rfl ?_
  obtain ⟨z7, hzz7, h⟩ := bind_some h
  refine wpO.retM (ins := [.box b1 [v3, w5], nestA encdom_node dom_node.kids 7 5 v3 ws4 a2.l none, slkA w5 a2.freed]) (more := []) (H0.sel [0, 1, 2] (by decide) rfl) rfl (oper_callF rfl rfl) (dom_Dom_at_ok E n _ _ _ hzz7 b1 v3 ws4 w5) (.cons (.refl _) (.cons (.refl _) .nil)) rfl ?_
  rintro v8 S9 l10 hr11 H12
  rcases z7 with _ | _
  ·
    obtain ⟨rfl, rfl⟩ := hr11
    replace h := if_f rfl h
    replace H12 : Has B0 S9 [.box b1 [v3, w5], nestA encdom_node dom_node.kids 7 5 v3 ws4 a2.l none, slkA w5 a2.freed] := H12
    have H13 : Has B0 S9 [.box b1 [v3, w5], nestA encdom_node dom_node.kids 7 5 v3 ws4 a2.l none, slkA w5 a2.freed] := H12.sel [0, 1, 2] (by decide) rfl
    refine wpO.val rfl (oper_assign rfl) rfl ?_
    refine wpO.nil ?_
    refine WpC.seq ?_
    refine WpC.seq ?_
    refine WpC.region E.obj rfl ?_
    refine wpO.val rfl (oper_move rfl) rfl ?_
    refine wpO.val rfl (oper_bin rfl rfl (binD_nn up91)) rfl ?_
    refine wpO.nil ?_
    refine WpC.cond rfl (fun hb => ?_) (fun hb => ?_)
    ·
      refine WpC.seq ?_
      refine WpC.region E.obj rfl ?_
      refine wpO.val rfl (oper_assign rfl) rfl ?_
      refine wpO.nil ?_
      have hr := Option.some.inj h
      subst hr
      exact WpC.ret ⟨_, rfl, rfl, _, _, _, .refl _, nilL, ⟨rfl, rfl⟩, H13.sel [0, 1, 2] (by decide) rfl⟩
    ·
      cases hb
  ·
    obtain ⟨rfl, rfl⟩ := hr11
    replace h := if_t rfl h
    replace H12 : Has B0 S9 [.box b1 [v3, w5], nestA encdom_node dom_node.kids 7 5 v3 ws4 a2.l none, slkA w5 a2.freed] := H12
    have H14 : Has B0 S9 [.box b1 [v3, w5], nestA encdom_node dom_node.kids 7 5 v3 ws4 a2.l none, slkA w5 a2.freed] := H12.sel [0, 1, 2] (by decide) rfl
    refine wpO.val rfl (oper_assign rfl) rfl ?_
    refine wpO.nil ?_
    refine WpC.seq ?_
    refine WpC.seq ?_
    refine WpC.region E.obj rfl ?_
    refine wpO.val rfl (oper_move rfl) rfl ?_
    obtain ⟨z15, hzz15, h⟩ := bind_some h
    refine wpO.val rfl (oper_eqN H14 (q := 1) rfl hzz15 rfl rfl up91) rfl ?_
    refine wpO.nil ?_
    refine WpC.cond rfl (fun hb => ?_) (fun hb => ?_)
    ·
      cases hb
    ·
      refine WpC.skip ?_
      refine WpC.seq ?_
      refine WpC.region E.obj rfl ?_
      refine wpO.val rfl (oper_move rfl) rfl ?_
      refine wpO.val rfl (oper_nilCheckN H14 (q := 1) rfl hzz15 rfl) rfl ?_
      refine wpO.val rfl (oper_nestField H14 (i := 1) rfl hzz15 rfl fo90_5 nz31 rfl) rfl ?_
      refine wpO.val rfl (oper_nestLoadK H14 (i := 1) rfl hzz15 rfl ag31) rfl ?_
      obtain ⟨z16, hzz16, h⟩ := bind_some h
      have H17 : Has B0 S9 ([nestA encdom_node dom_node.kids 7 5 v3 ws4 a2.l none] ++ [.box b1 [v3, w5], slkA w5 a2.freed]) := H14.sel [1, 0, 2] (by decide) rfl
      replace H17 : Has B0 S9 [nestA encdom_node dom_node.kids 7 5 v3 ws4 a2.l none, .box b1 [v3, w5], slkA w5 a2.freed] := H17
      have H18 := Has.take H17 (idx_some hzz15).2
      have H19 : Has B0 S9 [slkA (kwAt 5 ws4 (Int.toNat (IntKind.wrap .i64 (a6 - 1)))) z15.kids, .box b1 [v3, w5], nestA encdom_node dom_node.kids 7 5 v3 ws4 a2.l (some (Int.toNat (IntKind.wrap .i64 (a6 - 1)))), slkA w5 a2.freed] := H18.sel [0, 2, 1, 3] (by decide) rfl
      refine wpO.retM (ins := [slkA (kwAt 5 ws4 (Int.toNat (IntKind.wrap .i64 (a6 - 1)))) z15.kids]) (more := [.box b1 [v3, w5], nestA encdom_node dom_node.kids 7 5 v3 ws4 a2.l (some (Int.toNat (IntKind.wrap .i64 (a6 - 1)))), slkA w5 a2.freed]) (H19.sel [0, 1, 2, 3] (by decide) rfl) rfl (oper_callF rfl rfl) (slices_Clone__int_int__okK E n _ _ hzz16 _) (.cons (.refl _) .nil) rfl ?_
      rintro v20 S21 _ rfl H22
      replace H22 : Has B0 S21 [.row 1 v20 ((z16).map (D.int .i64)), slkA (kwAt 5 ws4 (Int.toNat (IntKind.wrap .i64 (a6 - 1)))) z15.kids, .box b1 [v3, w5], nestA encdom_node dom_node.kids 7 5 v3 ws4 a2.l (some (Int.toNat (IntKind.wrap .i64 (a6 - 1)))), slkA w5 a2.freed] := H22
      have H23 : Has B0 S21 [.row 1 v20 ((z16).map (D.int .i64)), slkA (kwAt 5 ws4 (Int.toNat (IntKind.wrap .i64 (a6 - 1)))) z15.kids, .box b1 [v3, w5], nestA encdom_node dom_node.kids 7 5 v3 ws4 a2.l (some (Int.toNat (IntKind.wrap .i64 (a6 - 1)))), slkA w5 a2.freed] := H22.sel [0, 1, 2, 3, 4] (by decide) rfl
      have H24 : Has B0 S21 ([slkA (kwAt 5 ws4 (Int.toNat (IntKind.wrap .i64 (a6 - 1)))) z15.kids, nestA encdom_node dom_node.kids 7 5 v3 ws4 a2.l (some (Int.toNat (IntKind.wrap .i64 (a6 - 1))))] ++ [.row 1 v20 ((z16).map (D.int .i64)), .box b1 [v3, w5], slkA w5 a2.freed]) := H23.sel [1, 3, 0, 2, 4] (by decide) rfl
      replace H24 : Has B0 S21 [slkA (kwAt 5 ws4 (Int.toNat (IntKind.wrap .i64 (a6 - 1)))) z15.kids, nestA encdom_node dom_node.kids 7 5 v3 ws4 a2.l (some (Int.toNat (IntKind.wrap .i64 (a6 - 1)))), .row 1 v20 ((z16).map (D.int .i64)), .box b1 [v3, w5], slkA w5 a2.freed] := H24
      have H25 := Has.untake H24 (idx_some hzz15).2
      have H26 : Has B0 S21 [.row 1 v20 ((z16).map (D.int .i64)), .box b1 [v3, w5], nestA encdom_node dom_node.kids 7 5 v3 ws4 a2.l none, slkA w5 a2.freed] := H25.sel [1, 2, 0, 3] (by decide) rfl
      refine wpO.val rfl (oper_assign rfl) rfl ?_
      refine wpO.nil ?_
      obtain ⟨SF1, HF1, hgF1⟩ := H26.freeze E.obj.toObjOk (i := 0) (l' := [.box b1 [v3, w5], nestA encdom_node dom_node.kids 7 5 v3 ws4 a2.l none, slkA w5 a2.freed]) rfl (.same (.same (.same .nil)))
      refine WpC.ghost (hgF1 _ _ [(0, (.ptr b1 0 0)), (1, (.d (.int .i64 a6))), (4, (.d (.sl ((z16).map (D.int .i64)) false))), (5, (rowPtr v3 (Int.toNat (IntKind.wrap .i64 (a6 - 1))) 0)), (6, (.ptr b1 0 0)), (7, (.d (.int .i64 a6))), (8, (rowPtr v3 (Int.toNat (IntKind.wrap .i64 (a6 - 1))) 0)), (9, (rowPtr v3 (Int.toNat (IntKind.wrap .i64 (a6 - 1))) 0)), (10, (.d (.bool false))), (11, (rowPtr v3 (Int.toNat (IntKind.wrap .i64 (a6 - 1))) 0)), (12, (rowPtr v3 (Int.toNat (IntKind.wrap .i64 (a6 - 1))) 0)), (13, (rowPtr v3 (Int.toNat (IntKind.wrap .i64 (a6 - 1))) 5)), (14, (kwAt 5 ws4 (Int.toNat (IntKind.wrap .i64 (a6 - 1))))), (15, (.d (.sl ((z16).map (D.int .i64)) false)))] (.cons rfl (.refl _) (.cons rfl (.refl _) (.it rfl (.cons rfl (.refl _) (.cons rfl (.refl _) (.cons rfl (.refl _) (.cons rfl (.refl _) (.cons rfl (.refl _) (.cons rfl (.refl _) (.cons rfl (.refl _) (.cons rfl (.refl _) (.cons rfl (.refl _) (.cons rfl (.refl _) (.it rfl .nil))))))))))))))) ?_
      have hr := Option.some.inj h
      subst hr
      exact WpC.ret ⟨_, rfl, rfl, _, _, _, .refl _, (.refl _), ⟨rfl, rfl⟩, HF1.sel [0, 1, 2] (by decide) rfl⟩
set_option maxRecDepth 20000 in
set_option maxHeartbeats 4000000 in
theorem dom_Dom_Root_ok (n : Nat) (a2 : dom_Dom) (r : Int) (h : dom_Dom_Root n a2 = some r) (b1 : Nat) (v3 : AV) (ws4 : List (List AV)) (w5 : AV) : SpecM R cfg.P 17 [.ptr b1 0 0] [.box b1 [v3, w5], nestA encdom_node dom_node.kids 7 5 v3 ws4 a2.l none, slkA w5 a2.freed] (fun v l => v = .d (.int .i64 r) ∧ l = [.box b1 [v3, w5], nestA encdom_node dom_node.kids 7 5 v3 ws4 a2.l none, slkA w5 a2.freed]) := by
  unfold dom_Dom_Root at h
  refine SpecM.of_wp (C := cfg) Try.func17 rfl nm17 rfl (fun B0 S0 H0 => ?_)
  replace H0 : Has B0 S0 [.box b1 [v3, w5], nestA encdom_node dom_node.kids 7 5 v3 ws4 a2.l none, slkA w5 a2.freed] := H0
  refine WpC.seq ?_
  refine WpC.region E.obj rfl ?_
  refine wpO.val rfl (oper_assign rfl) rfl ?_
  refine wpO.nil ?_
  refine WpC.seq ?_
  refine WpC.region E.obj rfl ?_
  refine wpO.val rfl (oper_assign rfl) rfl ?_
  refine wpO.nil ?_
  have hr := Option.some.inj h
  subst hr
  exact WpC.ret ⟨_, rfl, rfl, _, _, _, .refl _, (.refl _), ⟨rfl, rfl⟩, H0.sel [0, 1, 2] (by decide) rfl⟩
set_option maxRecDepth 20000 in
set_option maxHeartbeats 4000000 in
theorem dom_Dom_tree_ok : ∀ (n : Nat) (a2 : dom_Dom) (a6 : Int) (r : Tree), dom_Dom_tree n a2 a6 = some r → ∀ (b1 : Nat) (v3 : AV) (ws4 : List (List AV)) (w5 : AV), SpecM R cfg.P 65 [.ptr b1 0 0, .d (.int .i64 a6)] [.box b1 [v3, w5], nestA encdom_node dom_node.kids 7 5 v3 ws4 a2.l none, slkA w5 a2.freed] (fun v l => v = .d (encTree r) ∧ l = [.box b1 [v3, w5], nestA encdom_node dom_node.kids 7 5 v3 ws4 a2.l none, slkA w5 a2.freed])
  | 0, a2, a6, r, h, b1, v3, ws4, w5 => by simp [dom_Dom_tree] at h
  | n + 1, a2, a6, r, h, b1, v3, ws4, w5 => by
    have ih := dom_Dom_tree_ok n
    unfold dom_Dom_tree at h
    refine SpecM.of_wp (C := cfg) Try.func65 rfl nm65 rfl (fun B0 S0 H0 => ?_)
    replace H0 : Has B0 S0 [.box b1 [v3, w5], nestA encdom_node dom_node.kids 7 5 v3 ws4 a2.l none, slkA w5 a2.freed] := H0
    refine WpC.seq ?_
    refine WpC.region E.obj rfl ?_
    refine wpO.alloc H0 rfl ob39 zo39 rfl rfl (fun b7 S8 H9 => ?_)
    refine wpO.nil ?_
    refine WpC.seq ?_
    refine WpC.region E.obj rfl ?_
    refine wpO.val rfl (oper_move rfl) rfl ?_
    refine wpO.val rfl (oper_nilCheck rfl) rfl ?_
    refine wpO.val rfl (oper_fieldAddr rfl fo87_0 nz85 rfl) rfl ?_
    refine wpO.val rfl (oper_load H9 (i := 1) rfl rfl (part_one ag85 rfl)) rfl ?_
    refine wpO.val rfl (oper_move rfl) rfl ?_
    refine wpO.val rfl (oper_bin rfl rfl binD_sub) rfl ?_
    obtain ⟨z10, hzz10, h⟩ := bind_some h
    refine wpO.val rfl (oper_nestIdx H9 (i := 2) rfl hzz10 rfl rfl el85 as90 sz90) rfl ?_
    refine wpO.nestLoadW (cs := [(.d (.bool z10.lives)), (.d (.str z10.tag)), (.d (.str z10.key)), (.d (.str z10.text)), (.d (.sl ((z10.attrs).map encAttr) false)), (kwAt 5 ws4 (Int.toNat (IntKind.wrap .i64 (a6 - 1)))), (.d (.int .i64 z10.parent))]) H9 rfl (q := 2) rfl hzz10 rfl ag90 sz90 rfl rfl ?_
    refine wpO.alloc H9 rfl ob90 zo90 rfl rfl (fun b11 S12 H13 => ?_)
    refine wpO.store H13 (i := 0) rfl rfl rfl rfl (mkAgg_cells _) rfl sz90 (mkAgg_plain _) as90 rfl rfl rfl (fun S14 H15 => ?_)
    refine wpO.nil ?_
    refine WpC.seq ?_
    obtain ⟨z16, hzz16, h⟩ := bind_some h
    refine WpC.drawP E.obj hmix [[(5, none)], [(17, some 0)], [(5, none)], [(19, some 2)], [(5, none)], [(21, some 4)], [(5, none)], [(23, some 6)], [(24, some 7)], [(18, some 1), (20, some 3), (22, some 5), (25, some 8)], [], [(6, some 10), (26, some 9)]] [(0, none), (4, none), (5, none), (6, some 10)] (by kernel_rfl) [10, 11] (by decide) [some (.ptr b11 0 1), some (.d (.str z10.tag)), some (.ptr b11 0 2), some (.d (.str z10.key)), some (.ptr b11 0 3), some (.d (.str z10.text)), some (.ptr b11 0 4), some (.d (.sl ((z10.attrs).map encAttr) false)), some (.d (.sl ((z16).map encAttr) false)), some (Ev.mkAgg [(.d (.str z10.tag)), (.d (.str z10.key)), (.d (.str z10.text)), (.d (.sl ((z16).map encAttr) false)), (.d .nils)]), none, none] ?_
    refine ⟨[0, 1, 2, 3, 4, 5, 6, 7, 8, 9], by kernel_rfl, ?_, _, _, rfl, rfl, .step ?_⟩
    ·
      refine .cons rfl rfl rfl (.step ?_) ?_
      ·
        refine wpO.val rfl (oper_fieldAddr rfl fo90_1 nz9 rfl) rfl ?_
        exact wpO.nil ⟨_, _, rfl, fun _ ht => by cases ht; exact ⟨rfl, .refl _⟩⟩
      refine .cons rfl rfl rfl (.step ?_) ?_
      ·
        refine wpO.val rfl (oper_load H15 (i := 0) rfl rfl (part_one ag9 rfl)) rfl ?_
        exact wpO.nil ⟨_, _, rfl, fun _ ht => by cases ht; exact ⟨rfl, .refl _⟩⟩
      refine .cons rfl rfl rfl (.step ?_) ?_
      ·
        refine wpO.val rfl (oper_fieldAddr rfl fo90_2 nz9 rfl) rfl ?_
        exact wpO.nil ⟨_, _, rfl, fun _ ht => by cases ht; exact ⟨rfl, .refl _⟩⟩
      refine .cons rfl rfl rfl (.step ?_) ?_
      ·
        refine wpO.val rfl (oper_load H15 (i := 0) rfl rfl (part_one ag9 rfl)) rfl ?_
        exact wpO.nil ⟨_, _, rfl, fun _ ht => by cases ht; exact ⟨rfl, .refl _⟩⟩
      refine .cons rfl rfl rfl (.step ?_) ?_
      ·
        refine wpO.val rfl (oper_fieldAddr rfl fo90_3 nz9 rfl) rfl ?_
        exact wpO.nil ⟨_, _, rfl, fun _ ht => by cases ht; exact ⟨rfl, .refl _⟩⟩
      refine .cons rfl rfl rfl (.step ?_) ?_
      ·
        refine wpO.val rfl (oper_load H15 (i := 0) rfl rfl (part_one ag9 rfl)) rfl ?_
        exact wpO.nil ⟨_, _, rfl, fun _ ht => by cases ht; exact ⟨rfl, .refl _⟩⟩
      refine .cons rfl rfl rfl (.step ?_) ?_
      ·
        refine wpO.val rfl (oper_fieldAddr rfl fo90_4 nz36 rfl) rfl ?_
        exact wpO.nil ⟨_, _, rfl, fun _ ht => by cases ht; exact ⟨rfl, .refl _⟩⟩
      refine .cons rfl rfl rfl (.step ?_) ?_
      ·
        refine wpO.val rfl (oper_load H15 (i := 0) rfl rfl (part_one ag36 rfl)) rfl ?_
        exact wpO.nil ⟨_, _, rfl, fun _ ht => by cases ht; exact ⟨rfl, .refl _⟩⟩
      refine .cons rfl rfl rfl (.step ?_) ?_
      ·
        refine wpO.ret rfl (oper_callF rfl rfl) (slices_Clone__api_Attr_api_Attr__ok E _ _ _ hzz16 _ _ (ArgsC.eq .nil)) rfl ?_
        exact wpO.nil ⟨_, _, rfl, fun _ ht => by cases ht; exact ⟨rfl, .refl _⟩⟩
      refine .cons rfl rfl rfl (.step ?_) ?_
      ·
        refine wpO.val rfl (oper_build (cs := [(.d (.str z10.tag)), (.d (.str z10.key)), (.d (.str z10.text)), (.d (.sl ((z16).map encAttr) false)), (.d .nils)]) zo39 rfl (place_struct39) (fill1 rfl rfl rfl rfl (fill1 rfl rfl rfl rfl (fill1 rfl rfl rfl rfl (fill1 rfl rfl rfl rfl rfl))))) rfl ?_
        exact wpO.nil ⟨_, _, rfl, fun _ ht => by cases ht; exact ⟨rfl, .refl _⟩⟩
      exact .nil
    refine wpO.alloc H15 rfl ob39 zo39 rfl rfl (fun b22 S23 H24 => ?_)
    refine wpO.nil ⟨_, _, _, rfl, (fun _ ht => by cases ht; rfl), [some (.ptr b11 0 1), some (.d (.str z10.tag)), some (.ptr b11 0 2), some (.d (.str z10.key)), some (.ptr b11 0 3), some (.d (.str z10.text)), some (.ptr b11 0 4), some (.d (.sl ((z10.attrs).map encAttr) false)), some (.d (.sl ((z16).map encAttr) false)), some (Ev.mkAgg [(.d (.str z10.tag)), (.d (.str z10.key)), (.d (.str z10.text)), (.d (.sl ((z16).map encAttr) false)), (.d .nils)]), some (.ptr b22 0 0), none], (.old (.refl _) (.old (.refl _) (.old (.refl _) (.old (.refl _) (.old (.refl _) (.old (.refl _) (.old (.refl _) (.old (.refl _) (.old (.refl _) (.old (.refl _) (.new (.new .nil)))))))))))), (fun _ ht => by cases ht; exact ⟨_, rfl, .refl _⟩), ?_⟩
    refine ⟨[0, 1, 2, 3, 4, 5, 6, 7, 8, 9], by kernel_rfl, ?_, _, _, rfl, rfl, .step ?_⟩
    ·
      refine .cons rfl rfl rfl (.step ?_) ?_
      ·
        refine wpO.val rfl (oper_fieldAddr rfl fo90_1 nz9 rfl) rfl ?_
        exact wpO.nil ⟨_, _, rfl, fun _ ht => by cases ht; exact ⟨rfl, .refl _⟩⟩
      refine .cons rfl rfl rfl (.step ?_) ?_
      ·
        refine wpO.val rfl (oper_load H24 (i := 1) rfl rfl (part_one ag9 rfl)) rfl ?_
        exact wpO.nil ⟨_, _, rfl, fun _ ht => by cases ht; exact ⟨rfl, .refl _⟩⟩
      refine .cons rfl rfl rfl (.step ?_) ?_
      ·
        refine wpO.val rfl (oper_fieldAddr rfl fo90_2 nz9 rfl) rfl ?_
        exact wpO.nil ⟨_, _, rfl, fun _ ht => by cases ht; exact ⟨rfl, .refl _⟩⟩
      refine .cons rfl rfl rfl (.step ?_) ?_
      ·
        refine wpO.val rfl (oper_load H24 (i := 1) rfl rfl (part_one ag9 rfl)) rfl ?_
        exact wpO.nil ⟨_, _, rfl, fun _ ht => by cases ht; exact ⟨rfl, .refl _⟩⟩
      refine .cons rfl rfl rfl (.step ?_) ?_
      ·
        refine wpO.val rfl (oper_fieldAddr rfl fo90_3 nz9 rfl) rfl ?_
        exact wpO.nil ⟨_, _, rfl, fun _ ht => by cases ht; exact ⟨rfl, .refl _⟩⟩
      refine .cons rfl rfl rfl (.step ?_) ?_
      ·
        refine wpO.val rfl (oper_load H24 (i := 1) rfl rfl (part_one ag9 rfl)) rfl ?_
        exact wpO.nil ⟨_, _, rfl, fun _ ht => by cases ht; exact ⟨rfl, .refl _⟩⟩
      refine .cons rfl rfl rfl (.step ?_) ?_
      ·
        refine wpO.val rfl (oper_fieldAddr rfl fo90_4 nz36 rfl) rfl ?_
        exact wpO.nil ⟨_, _, rfl, fun _ ht => by cases ht; exact ⟨rfl, .refl _⟩⟩
      refine .cons rfl rfl rfl (.step ?_) ?_
      ·
        refine wpO.val rfl (oper_load H24 (i := 1) rfl rfl (part_one ag36 rfl)) rfl ?_
        exact wpO.nil ⟨_, _, rfl, fun _ ht => by cases ht; exact ⟨rfl, .refl _⟩⟩
      refine .cons rfl rfl rfl (.step ?_) ?_
      ·
        refine wpO.ret rfl (oper_callF rfl rfl) (slices_Clone__api_Attr_api_Attr__ok E _ _ _ hzz16 _ _ (ArgsC.eq .nil)) rfl ?_
        exact wpO.nil ⟨_, _, rfl, fun _ ht => by cases ht; exact ⟨rfl, .refl _⟩⟩
      refine .cons rfl rfl rfl (.step ?_) ?_
      ·
        refine wpO.val rfl (oper_build (cs := [(.d (.str z10.tag)), (.d (.str z10.key)), (.d (.str z10.text)), (.d (.sl ((z16).map encAttr) false)), (.d .nils)]) zo39 rfl (place_struct39) (fill1 rfl rfl rfl rfl (fill1 rfl rfl rfl rfl (fill1 rfl rfl rfl rfl (fill1 rfl rfl rfl rfl rfl))))) rfl ?_
        exact wpO.nil ⟨_, _, rfl, fun _ ht => by cases ht; exact ⟨rfl, .refl _⟩⟩
      exact .nil
    refine wpO.store H24 (i := 0) rfl rfl rfl rfl rfl rfl sz39 rfl as39 rfl rfl rfl (fun S25 H26 => ?_)
    refine wpO.nil ⟨_, .any, _, rfl, (fun _ ht => by cases ht), [some (.ptr b11 0 1), some (.d (.str z10.tag)), some (.ptr b11 0 2), some (.d (.str z10.key)), some (.ptr b11 0 3), some (.d (.str z10.text)), some (.ptr b11 0 4), some (.d (.sl ((z10.attrs).map encAttr) false)), some (.d (.sl ((z16).map encAttr) false)), some (Ev.mkAgg [(.d (.str z10.tag)), (.d (.str z10.key)), (.d (.str z10.text)), (.d (.sl ((z16).map encAttr) false)), (.d .nils)]), some (.ptr b22 0 0), some .any], (.old (.refl _) (.old (.refl _) (.old (.refl _) (.old (.refl _) (.old (.refl _) (.old (.refl _) (.old (.refl _) (.old (.refl _) (.old (.refl _) (.old (.refl _) (.old (.refl _) (.new .nil)))))))))))), (fun _ ht => by cases ht), ?_⟩
    refine ⟨[], by kernel_rfl, ?_, _, rfl, ?_⟩
    ·
      exact .nil
    refine WpC.seq ?_
    refine WpC.seq ?_
    refine WpC.region E.obj rfl ?_
    refine wpO.val rfl (oper_fieldAddr rfl fo90_5 nz31 rfl) rfl ?_
    refine wpO.val rfl (oper_load H26 (i := 1) rfl rfl (part_one ag31 rfl)) rfl ?_
    have H27 : Has B0 S25 ([nestA encdom_node dom_node.kids 7 5 v3 ws4 a2.l none] ++ [.box b22 [(.d (.str z10.tag)), (.d (.str z10.key)), (.d (.str z10.text)), (.d (.sl ((z16).map encAttr) false)), (.d .nils)], .box b11 [(.d (.bool z10.lives)), (.d (.str z10.tag)), (.d (.str z10.key)), (.d (.str z10.text)), (.d (.sl ((z10.attrs).map encAttr) false)), (kwAt 5 ws4 (Int.toNat (IntKind.wrap .i64 (a6 - 1)))), (.d (.int .i64 z10.parent))], .box b7 [(.d (.str [])), (.d (.str [])), (.d (.str [])), (.d .nils), (.d .nils)], .box b1 [v3, w5], slkA w5 a2.freed]) := H26.sel [4, 0, 1, 2, 3, 5] (by decide) rfl
    replace H27 : Has B0 S25 [nestA encdom_node dom_node.kids 7 5 v3 ws4 a2.l none, .box b22 [(.d (.str z10.tag)), (.d (.str z10.key)), (.d (.str z10.text)), (.d (.sl ((z16).map encAttr) false)), (.d .nils)], .box b11 [(.d (.bool z10.lives)), (.d (.str z10.tag)), (.d (.str z10.key)), (.d (.str z10.text)), (.d (.sl ((z10.attrs).map encAttr) false)), (kwAt 5 ws4 (Int.toNat (IntKind.wrap .i64 (a6 - 1)))), (.d (.int .i64 z10.parent))], .box b7 [(.d (.str [])), (.d (.str [])), (.d (.str [])), (.d .nils), (.d .nils)], .box b1 [v3, w5], slkA w5 a2.freed] := H27
    have H28 := Has.take H27 (idx_some hzz10).2
    refine wpO.val rfl (oper_lenS H28 (i := 0) rfl rfl es31) rfl ?_
    refine wpO.val rfl (oper_move rfl) rfl ?_
    refine wpO.nil ?_
    refine WpC.block ?_
    have H68 := H26.nilG
    refine WpL.start (B := B0) (α := (List Tree) × AV × Int) (fun k a => dom_Dom_tree_l41 (dom_Dom_tree n) a2 z10 z16 k a.1 a.2.2 = some r) (fun a => [(0, (.ptr b1 0 0)), (4, (.ptr b7 0 0)), (6, (.ptr b22 0 0)), (28, (kwAt 5 ws4 (Int.toNat (IntKind.wrap .i64 (a6 - 1))))), (29, (.d (.int .i64 ((z10.kids).length : Int)))), (30, (.d (.int .i64 a.2.2)))]) (fun a => [.box b22 [(.d (.str z10.tag)), (.d (.str z10.key)), (.d (.str z10.text)), (.d (.sl ((z16).map encAttr) false)), a.2.1], .box b7 [(.d (.str [])), (.d (.str [])), (.d (.str [])), (.d .nils), (.d .nils)], .grow a.2.1 ((a.1).map encTree), .box b1 [v3, w5], nestA encdom_node dom_node.kids 7 5 v3 ws4 a2.l none, slkA w5 a2.freed]) ?_ ?_ n ⟨⟨[], (.d .nils), 0⟩, _, _, S25, .refl _ _, .refl _, (WeakE.cons rfl (.refl _) (WeakE.cons rfl (.refl _) (WeakE.cons rfl (.refl _) (WeakE.cons rfl (.refl _) (WeakE.cons rfl (.refl _) (WeakE.cons rfl (.refl _) WeakE.nil)))))), H68.sel [1, 3, 0, 4, 5, 6] (by decide) rfl, h⟩
    · intro a h; simp [dom_Dom_tree_l41] at h
    ·
      intro k41 a S36 H37 h
      obtain ⟨x38, v39, x40⟩ := a
      replace h : dom_Dom_tree_l41 (dom_Dom_tree n) a2 z10 z16 (k41 + 1) x38 x40 = some r := h
      replace H37 : Has B0 S36 [.box b22 [(.d (.str z10.tag)), (.d (.str z10.key)), (.d (.str z10.text)), (.d (.sl ((z16).map encAttr) false)), v39], .box b7 [(.d (.str [])), (.d (.str [])), (.d (.str [])), (.d .nils), (.d .nils)], .grow v39 ((x38).map encTree), .box b1 [v3, w5], nestA encdom_node dom_node.kids 7 5 v3 ws4 a2.l none, slkA w5 a2.freed] := H37
      unfold dom_Dom_tree_l41 at h
      refine WpC.seq ?_
      refine WpC.region E.obj rfl ?_
      refine wpO.val rfl (oper_bin rfl rfl binD_lss) rfl ?_
      refine wpO.nil ?_
      refine WpC.seq ?_
      refine WpC.cond rfl (fun hb42 => ?_) (fun hb42 => ?_)
      ·
        replace h := if_t hb42 h
        refine WpC.skip ?_
        refine WpC.seq ?_
        refine WpC.block ?_
        refine WpC.seq ?_
        refine WpC.region E.obj rfl ?_
        obtain ⟨z43, hzz43, h⟩ := bind_some h
        have H44 : Has B0 S36 ([nestA encdom_node dom_node.kids 7 5 v3 ws4 a2.l none] ++ [.box b22 [(.d (.str z10.tag)), (.d (.str z10.key)), (.d (.str z10.text)), (.d (.sl ((z16).map encAttr) false)), v39], .box b7 [(.d (.str [])), (.d (.str [])), (.d (.str [])), (.d .nils), (.d .nils)], .grow v39 ((x38).map encTree), .box b1 [v3, w5], slkA w5 a2.freed]) := H37.sel [4, 0, 1, 2, 3, 5] (by decide) rfl
        replace H44 : Has B0 S36 [nestA encdom_node dom_node.kids 7 5 v3 ws4 a2.l none, .box b22 [(.d (.str z10.tag)), (.d (.str z10.key)), (.d (.str z10.text)), (.d (.sl ((z16).map encAttr) false)), v39], .box b7 [(.d (.str [])), (.d (.str [])), (.d (.str [])), (.d .nils), (.d .nils)], .grow v39 ((x38).map encTree), .box b1 [v3, w5], slkA w5 a2.freed] := H44
        have H45 := Has.take H44 (idx_some hzz10).2
        refine wpO.val rfl (oper_slkIdx H45 (q := 0) rfl hzz43 rfl rfl el31 as3 sz3) rfl ?_
        have H46 : Has B0 S36 ([nestA encdom_node dom_node.kids 7 5 v3 ws4 a2.l none] ++ [.box b22 [(.d (.str z10.tag)), (.d (.str z10.key)), (.d (.str z10.text)), (.d (.sl ((z16).map encAttr) false)), v39], .box b7 [(.d (.str [])), (.d (.str [])), (.d (.str [])), (.d .nils), (.d .nils)], .grow v39 ((x38).map encTree), .box b1 [v3, w5], slkA w5 a2.freed]) := H37.sel [4, 0, 1, 2, 3, 5] (by decide) rfl
        replace H46 : Has B0 S36 [nestA encdom_node dom_node.kids 7 5 v3 ws4 a2.l none, .box b22 [(.d (.str z10.tag)), (.d (.str z10.key)), (.d (.str z10.text)), (.d (.sl ((z16).map encAttr) false)), v39], .box b7 [(.d (.str [])), (.d (.str [])), (.d (.str [])), (.d .nils), (.d .nils)], .grow v39 ((x38).map encTree), .box b1 [v3, w5], slkA w5 a2.freed] := H46
        have H47 := Has.take H46 (idx_some hzz10).2
        refine wpO.val rfl (oper_slkLoad H47 (q := 0) rfl hzz43 rfl ag3) rfl ?_
        refine wpO.val rfl (oper_assign rfl) rfl ?_
        refine wpO.nil ?_
        obtain ⟨z48, hzz48, h⟩ := bind_some h
        obtain ⟨z52, hzz52, h⟩ := bind_some h
        refine WpC.drawP E.obj hmix [[(6, none)], [(34, some 0)], [(0, none)], [(8, none)], [(36, some 2), (37, some 3)], [(38, some 4)], [(35, some 1), (39, some 5)], [(6, none)], [(40, some 6), (41, some 7)]] [(0, none), (4, none), (6, none), (28, none), (29, none), (30, none)] (by kernel_rfl) [4, 6, 8] (by decide) [some (.ptr b22 0 4), some v39, some (.ptr b1 0 0), some (.d (.int .i64 z43)), none, none, none, none, none] ?_
        refine ⟨[0, 1, 2, 3], by kernel_rfl, ?_, _, _, rfl, rfl, .step ?_⟩
        ·
          refine .cons rfl rfl rfl (.step ?_) ?_
          ·
            refine wpO.val rfl (oper_fieldAddr rfl fo39_4 nz37 rfl) rfl ?_
            exact wpO.nil ⟨_, _, rfl, fun _ ht => by cases ht; exact ⟨rfl, .refl _⟩⟩
          refine .cons rfl rfl rfl (.step ?_) ?_
          ·
            refine wpO.val rfl (oper_load H37 (i := 0) rfl rfl (part_one ag37 rfl)) rfl ?_
            exact wpO.nil ⟨_, _, rfl, fun _ ht => by cases ht; exact ⟨rfl, .refl _⟩⟩
          refine .cons rfl rfl rfl (.step ?_) ?_
          ·
            refine wpO.val rfl (oper_move rfl) rfl ?_
            exact wpO.nil ⟨_, _, rfl, fun _ ht => by cases ht; exact ⟨rfl, .refl _⟩⟩
          refine .cons rfl rfl rfl (.step ?_) ?_
          ·
            refine wpO.val rfl (oper_move rfl) rfl ?_
            exact wpO.nil ⟨_, _, rfl, fun _ ht => by cases ht; exact ⟨rfl, .refl _⟩⟩
          exact .nil
        refine wpO.retM (ins := [.box b1 [v3, w5], nestA encdom_node dom_node.kids 7 5 v3 ws4 a2.l none, slkA w5 a2.freed]) (more := [.box b22 [(.d (.str z10.tag)), (.d (.str z10.key)), (.d (.str z10.text)), (.d (.sl ((z16).map encAttr) false)), v39], .box b7 [(.d (.str [])), (.d (.str [])), (.d (.str [])), (.d .nils), (.d .nils)], .grow v39 ((x38).map encTree)]) (H37.sel [3, 4, 5, 0, 1, 2] (by decide) rfl) rfl (oper_callF rfl rfl) (ih _ _ _ hzz48 b1 v3 ws4 w5) (.cons (.refl _) (.cons (.refl _) .nil)) rfl ?_
        rintro _ S58 _ ⟨rfl, rfl⟩ H59
        replace H59 : Has B0 S58 [.box b1 [v3, w5], nestA encdom_node dom_node.kids 7 5 v3 ws4 a2.l none, slkA w5 a2.freed, .box b22 [(.d (.str z10.tag)), (.d (.str z10.key)), (.d (.str z10.text)), (.d (.sl ((z16).map encAttr) false)), v39], .box b7 [(.d (.str [])), (.d (.str [])), (.d (.str [])), (.d .nils), (.d .nils)], .grow v39 ((x38).map encTree)] := H59
        have H60 : Has B0 S58 [.box b22 [(.d (.str z10.tag)), (.d (.str z10.key)), (.d (.str z10.text)), (.d (.sl ((z16).map encAttr) false)), v39], .box b7 [(.d (.str [])), (.d (.str [])), (.d (.str [])), (.d .nils), (.d .nils)], .grow v39 ((x38).map encTree), .box b1 [v3, w5], nestA encdom_node dom_node.kids 7 5 v3 ws4 a2.l none, slkA w5 a2.freed] := H59.sel [3, 4, 5, 0, 1, 2] (by decide) rfl
        refine wpO.nil ⟨_, _, _, rfl, (fun _ ht => by cases ht; rfl), [some (.ptr b22 0 4), some v39, some (.ptr b1 0 0), some (.d (.int .i64 z43)), some (.d (encTree z48)), some (.d (.sl (([z48]).map encTree) true)), none, none, none], (.old (.refl _) (.old (.refl _) (.old (.refl _) (.old (.refl _) (.new (.new (.new (.new (.new .nil))))))))), (fun _ ht => by cases ht; exact ⟨_, rfl, .refl _⟩), ?_⟩
        refine ⟨[0, 1, 5], by kernel_rfl, ?_, _, _, rfl, rfl, .step ?_⟩
        ·
          refine .cons rfl rfl rfl (.step ?_) ?_
          ·
            refine wpO.val rfl (oper_fieldAddr rfl fo39_4 nz37 rfl) rfl ?_
            exact wpO.nil ⟨_, _, rfl, fun _ ht => by cases ht; exact ⟨rfl, .refl _⟩⟩
          refine .cons rfl rfl rfl (.step ?_) ?_
          ·
            refine wpO.val rfl (oper_load H60 (i := 0) rfl rfl (part_one ag37 rfl)) rfl ?_
            exact wpO.nil ⟨_, _, rfl, fun _ ht => by cases ht; exact ⟨rfl, .refl _⟩⟩
          refine .cons rfl rfl rfl (.step ?_) ?_
          ·
            refine wpO.val rfl (oper_buildSlice (vs := [(.d (encTree z48))]) (ds := [(encTree z48)]) rw37 el37 ag39 zo39 sz39 rfl (by decide) (.cons rfl (Tree.len _) .nil) rfl (by intro d hd; simp only [List.mem_cons, List.not_mem_nil, or_false] at hd; rcases hd with rfl <;> exact Tree.agg _) rfl) rfl ?_
            exact wpO.nil ⟨_, _, rfl, fun _ ht => by cases ht; exact ⟨rfl, .refl _⟩⟩
          exact .nil
        refine wpO.append (xs := (x38).map encTree) (ys := ([z48]).map encTree) (zs := (z52).map encTree) H60 rfl rfl rfl (i := 2) rfl rfl rw37 os37 el37 (app_bound hzz52) nb39 rfl (sizes_map (enc := encTree) (fun z => (Tree.len z).trans sz39.symm) _) (sizes_map (enc := encTree) (fun z => (Tree.len z).trans sz39.symm) _) zk39 rfl (app_eq hzz52) (fun v61 S62 H63 => ?_)
        refine wpO.nil ⟨_, _, _, rfl, (fun _ ht => by cases ht; rfl), [some (.ptr b22 0 4), some v39, some (.ptr b1 0 0), some (.d (.int .i64 z43)), some (.d (encTree z48)), some (.d (.sl (([z48]).map encTree) true)), some v61, some (.ptr b22 0 4), none], (.old (.refl _) (.old (.refl _) (.old (.refl _) (.old (.refl _) (.old (.refl _) (.old (.refl _) (.new (.new (.new .nil))))))))), (fun _ ht => by cases ht; exact ⟨_, rfl, .refl _⟩), ?_⟩
        refine ⟨[7], by kernel_rfl, ?_, _, _, rfl, rfl, .step ?_⟩
        ·
          refine .cons rfl rfl rfl (.step ?_) ?_
          ·
            refine wpO.val rfl (oper_fieldAddr rfl fo39_4 nz37 rfl) rfl ?_
            exact wpO.nil ⟨_, _, rfl, fun _ ht => by cases ht; exact ⟨rfl, .refl _⟩⟩
          exact .nil
        refine wpO.store H63 (i := 0) rfl rfl rfl rfl (grow_toD (H63.at (i := 2) rfl)).2.2.2.2 rfl sz37 (grow_toD (H63.at (i := 2) rfl)).2.2.2.1 as37 rfl rfl rfl (fun S64 H65 => ?_)
        refine wpO.nil ⟨_, .any, _, rfl, (fun _ ht => by cases ht), [some (.ptr b22 0 4), some v39, some (.ptr b1 0 0), some (.d (.int .i64 z43)), some (.d (encTree z48)), some (.d (.sl (([z48]).map encTree) true)), some v61, some (.ptr b22 0 4), some .any], (.old (.refl _) (.old (.refl _) (.old (.refl _) (.old (.refl _) (.old (.refl _) (.old (.refl _) (.old (.refl _) (.old (.refl _) (.new .nil))))))))), (fun _ ht => by cases ht), ?_⟩
        refine ⟨[], by kernel_rfl, ?_, _, rfl, ?_⟩
        ·
          exact .nil
        refine WpC.region E.obj rfl ?_
        refine wpO.val rfl (oper_bin rfl rfl binD_add) rfl ?_
        refine wpO.val rfl (oper_move rfl) rfl ?_
        refine wpO.nil ?_
        exact ⟨⟨z52, v61, (IntKind.wrap .i64 (x40 + 1))⟩, _, _, S64, .refl _ _, .refl _, (WeakE.cons rfl (.refl _) (WeakE.cons rfl (.refl _) (WeakE.cons rfl (.refl _) (WeakE.cons rfl (.refl _) (WeakE.cons rfl (.refl _) (WeakE.cons rfl (.refl _) WeakE.nil)))))), H65.sel [0, 1, 2, 3, 4, 5] (by decide) rfl, h⟩
      ·
        replace h := if_f hb42 h
        refine WpC.exit ?_
        refine WpC.seq ?_
        refine WpC.region E.obj rfl ?_
        refine wpO.val rfl (oper_load H37 (i := 0) rfl rfl (part_agg ag39 sz39 rfl)) rfl ?_
        refine wpO.less (Less.agg' (d := encTree (Tree.mk z10.tag z10.key z10.text z16 x38)) (CellsC.eq rfl (CellsC.eq rfl (CellsC.eq rfl (CellsC.eq rfl (CellsC.grow H37 (i := 2) rfl .nil))))) ((Tree.eq _).trans rfl)) ?_
        refine wpO.store H37 (i := 1) rfl rfl rfl rfl (Tree.cellsA _) rfl sz39 rfl as39 rfl rfl rfl (fun S66 H67 => ?_)
        refine wpO.nil ?_
        have hr := Option.some.inj h
        subst hr
        exact WpC.ret ⟨_, (resultsE_cell H67 (i := 1) rfl rfl rfl (part_agg ag39 sz39 rfl)), rfl, _, _, _, .refl _, (Less.agg' (d := encTree (Tree.mk z10.tag z10.key z10.text z16 x38)) (CellsC.eq rfl (CellsC.eq rfl (CellsC.eq rfl (CellsC.eq rfl (CellsC.eq rfl .nil))))) ((Tree.eq _).trans rfl)), ⟨rfl, rfl⟩, H67.sel [3, 4, 5] (by decide) rfl⟩
set_option maxRecDepth 20000 in
set_option maxHeartbeats 4000000 in
theorem dom_Dom_Tree_ok (n : Nat) (a2 : dom_Dom) (a6 : Int) (r : (Tree × Bool)) (h : dom_Dom_Tree n a2 a6 = some r) (b1 : Nat) (v3 : AV) (ws4 : List (List AV)) (w5 : AV) : SpecM R cfg.P 21 [.ptr b1 0 0, .d (.int .i64 a6)] [.box b1 [v3, w5], nestA encdom_node dom_node.kids 7 5 v3 ws4 a2.l none, slkA w5 a2.freed] (fun v l => v = .tup [.d (encTree r.1), .d (.bool r.2)] ∧ l = [.box b1 [v3, w5], nestA encdom_node dom_node.kids 7 5 v3 ws4 a2.l none, slkA w5 a2.freed]) := by
  unfold dom_Dom_Tree at h
  refine SpecM.of_wp (C := cfg) Try.func21 rfl nm21 rfl (fun B0 S0 H0 => ?_)
  replace H0 : Has B0 S0 [.box b1 [v3, w5], nestA encdom_node dom_node.kids 7 5 v3 ws4 a2.l none, slkA w5 a2.freed] := H0
  refine WpC.seq ?_
  refine WpC.region E.obj rfl ?_
  refine wpO.alloc H0 rfl ob39 zo39 rfl rfl (fun b7 S8 H9 => ?_)
  refine wpO.val rfl (oper_assign rfl) rfl ?_
  refine wpO.nil ?_
  refine WpC.seq ?_
  refine WpC.seq ?_
  refine WpC.region E.obj rfl ?_
  refine wpO.val rfl (oper_move rfl) rfl ?_
  refine wpO.val rfl (oper_move rfl) rfl ?_
  obtain ⟨z10, hzz10, h⟩ := bind_some h
  refine wpO.retM (ins := [.box b1 [v3, w5], nestA encdom_node dom_node.kids 7 5 v3 ws4 a2.l none, slkA w5 a2.freed]) (more := [.box b7 [(.d (.str [])), (.d (.str [])), (.d (.str [])), (.d .nils), (.d .nils)]]) (H9.sel [1, 2, 3, 0] (by decide) rfl) rfl (oper_callF rfl rfl) (dom_Dom_at_ok E n _ _ _ hzz10 b1 v3 ws4 w5) (.cons (.refl _) (.cons (.refl _) .nil)) rfl ?_
  rintro v11 S12 l13 hr14 H15
  rcases z10 with _ | _
  ·
    obtain ⟨rfl, rfl⟩ := hr14
    replace h := if_f rfl h
    replace H15 : Has B0 S12 [.box b1 [v3, w5], nestA encdom_node dom_node.kids 7 5 v3 ws4 a2.l none, slkA w5 a2.freed, .box b7 [(.d (.str [])), (.d (.str [])), (.d (.str [])), (.d .nils), (.d .nils)]] := H15
    have H16 : Has B0 S12 [.box b7 [(.d (.str [])), (.d (.str [])), (.d (.str [])), (.d .nils), (.d .nils)], .box b1 [v3, w5], nestA encdom_node dom_node.kids 7 5 v3 ws4 a2.l none, slkA w5 a2.freed] := H15.sel [3, 0, 1, 2] (by decide) rfl
    refine wpO.val rfl (oper_bin rfl rfl (binD_nn up91)) rfl ?_
    refine wpO.nil ?_
    refine WpC.cond rfl (fun hb => ?_) (fun hb => ?_)
    ·
      refine WpC.seq ?_
      refine WpC.region E.obj rfl ?_
      refine wpO.val rfl (oper_build (cs := [(.d (.str [])), (.d (.str [])), (.d (.str [])), (.d .nils), (.d .nils)]) zo39 rfl (place_struct39) rfl) rfl ?_
      refine wpO.less (Less.agg' (d := encTree (Tree.mk [] [] [] [] [])) (CellsC.eq rfl (CellsC.eq rfl (CellsC.eq rfl (CellsC.consW rfl (.nils false) rfl rfl (CellsC.consW rfl (.nils false) rfl rfl .nil))))) ((Tree.eq _).trans rfl)) ?_
      refine wpO.store H16 (i := 0) rfl rfl rfl rfl (Tree.cellsA _) rfl sz39 rfl as39 rfl rfl rfl (fun S17 H18 => ?_)
      refine wpO.val rfl (oper_assign rfl) rfl ?_
      refine wpO.nil ?_
      have hr := Option.some.inj h
      subst hr
      exact WpC.ret ⟨_, (resultsE_ct H18 (i := 0) rfl rfl rfl (part_agg ag39 sz39 rfl) rfl), rfl, _, _, _, .refl _, (Less.tup2 (Less.agg' (d := encTree (Tree.mk [] [] [] [] [])) (CellsC.eq rfl (CellsC.eq rfl (CellsC.eq rfl (CellsC.eq rfl (CellsC.eq rfl .nil))))) ((Tree.eq _).trans rfl)) (.refl _)), ⟨rfl, rfl⟩, H18.sel [1, 2, 3] (by decide) rfl⟩
    ·
      cases hb
  ·
    obtain ⟨rfl, rfl⟩ := hr14
    replace h := if_t rfl h
    replace H15 : Has B0 S12 [.box b1 [v3, w5], nestA encdom_node dom_node.kids 7 5 v3 ws4 a2.l none, slkA w5 a2.freed, .box b7 [(.d (.str [])), (.d (.str [])), (.d (.str [])), (.d .nils), (.d .nils)]] := H15
    have H19 : Has B0 S12 [.box b7 [(.d (.str [])), (.d (.str [])), (.d (.str [])), (.d .nils), (.d .nils)], .box b1 [v3, w5], nestA encdom_node dom_node.kids 7 5 v3 ws4 a2.l none, slkA w5 a2.freed] := H15.sel [3, 0, 1, 2] (by decide) rfl
    obtain ⟨z20, hzz20, h⟩ := bind_some h
    refine wpO.val rfl (oper_eqN H19 (q := 2) rfl hzz20 rfl rfl up91) rfl ?_
    refine wpO.nil ?_
    refine WpC.cond rfl (fun hb => ?_) (fun hb => ?_)
    ·
      cases hb
    ·
      refine WpC.skip ?_
      refine WpC.seq ?_
      refine WpC.region E.obj rfl ?_
      refine wpO.val rfl (oper_move rfl) rfl ?_
      refine wpO.val rfl (oper_move rfl) rfl ?_
      obtain ⟨z21, hzz21, h⟩ := bind_some h
      refine wpO.retM (ins := [.box b1 [v3, w5], nestA encdom_node dom_node.kids 7 5 v3 ws4 a2.l none, slkA w5 a2.freed]) (more := [.box b7 [(.d (.str [])), (.d (.str [])), (.d (.str [])), (.d .nils), (.d .nils)]]) (H19.sel [1, 2, 3, 0] (by decide) rfl) rfl (oper_callF rfl rfl) (dom_Dom_tree_ok E n _ _ _ hzz21 b1 v3 ws4 w5) (.cons (.refl _) (.cons (.refl _) .nil)) rfl ?_
      rintro _ S22 _ ⟨rfl, rfl⟩ H23
      replace H23 : Has B0 S22 [.box b1 [v3, w5], nestA encdom_node dom_node.kids 7 5 v3 ws4 a2.l none, slkA w5 a2.freed, .box b7 [(.d (.str [])), (.d (.str [])), (.d (.str [])), (.d .nils), (.d .nils)]] := H23
      have H24 : Has B0 S22 [.box b7 [(.d (.str [])), (.d (.str [])), (.d (.str [])), (.d .nils), (.d .nils)], .box b1 [v3, w5], nestA encdom_node dom_node.kids 7 5 v3 ws4 a2.l none, slkA w5 a2.freed] := H23.sel [3, 0, 1, 2] (by decide) rfl
      refine wpO.store H24 (i := 0) rfl rfl rfl rfl (Tree.cellsA _) rfl sz39 rfl as39 rfl rfl rfl (fun S25 H26 => ?_)
      refine wpO.val rfl (oper_assign rfl) rfl ?_
      refine wpO.nil ?_
      have hr := Option.some.inj h
      subst hr
      exact WpC.ret ⟨_, (resultsE_ct H26 (i := 0) rfl rfl rfl (part_agg ag39 sz39 rfl) rfl), rfl, _, _, _, .refl _, (Less.tup2 (Less.agg' (d := encTree z21) (CellsC.eq rfl (CellsC.eq rfl (CellsC.eq rfl (CellsC.eq rfl (CellsC.eq rfl .nil))))) ((Tree.eq _).trans rfl)) (.refl _)), ⟨rfl, rfl⟩, H26.sel [1, 2, 3] (by decide) rfl⟩
set_option maxRecDepth 20000 in
set_option maxHeartbeats 4000000 in
theorem outlet_Slot_ok : ∀ (n : Nat) (a2 : dom_Dom) (a6 : Int) (r : Int), outlet_Slot n a2 a6 = some r → ∀ (b1 : Nat) (v3 : AV) (ws4 : List (List AV)) (w5 : AV), SpecM R cfg.P 53 [.ptr b1 0 0, .d (.int .i64 a6)] [.box b1 [v3, w5], nestA encdom_node dom_node.kids 7 5 v3 ws4 a2.l none, slkA w5 a2.freed] (fun v l => v = .d (.int .i64 r) ∧ l = [.box b1 [v3, w5], nestA encdom_node dom_node.kids 7 5 v3 ws4 a2.l none, slkA w5 a2.freed])
  | 0, a2, a6, r, h, b1, v3, ws4, w5 => by simp [outlet_Slot] at h
  | n + 1, a2, a6, r, h, b1, v3, ws4, w5 => by
    have ih := outlet_Slot_ok n
    unfold outlet_Slot at h
    refine SpecM.of_wp (C := cfg) Try.func53 rfl nm53 rfl (fun B0 S0 H0 => ?_)
    replace H0 : Has B0 S0 [.box b1 [v3, w5], nestA encdom_node dom_node.kids 7 5 v3 ws4 a2.l none, slkA w5 a2.freed] := H0
    refine WpC.seq ?_
    refine WpC.region E.obj rfl ?_
    refine wpO.val rfl (oper_assign rfl) rfl ?_
    refine wpO.nil ?_
    refine WpC.seq ?_
    refine WpC.region E.obj rfl ?_
    refine wpO.val rfl (oper_move rfl) rfl ?_
    refine wpO.val rfl (oper_move rfl) rfl ?_
    obtain ⟨z7, hzz7, h⟩ := bind_some h
    refine wpO.retM (ins := [.box b1 [v3, w5], nestA encdom_node dom_node.kids 7 5 v3 ws4 a2.l none, slkA w5 a2.freed]) (more := []) (H0.sel [0, 1, 2] (by decide) rfl) rfl (oper_callF rfl rfl) (dom_Dom_Tree_ok E n _ _ _ hzz7 b1 v3 ws4 w5) (.cons (.refl _) (.cons (.refl _) .nil)) rfl ?_
    rintro _ S8 _ ⟨rfl, rfl⟩ H9
    replace H9 : Has B0 S8 [.box b1 [v3, w5], nestA encdom_node dom_node.kids 7 5 v3 ws4 a2.l none, slkA w5 a2.freed] := H9
    have H10 : Has B0 S8 [.box b1 [v3, w5], nestA encdom_node dom_node.kids 7 5 v3 ws4 a2.l none, slkA w5 a2.freed] := H9.sel [0, 1, 2] (by decide) rfl
    refine wpO.val rfl (oper_move rfl) rfl ?_
    refine wpO.val rfl (oper_extract rfl rfl) rfl ?_
    refine wpO.val rfl (oper_extract rfl rfl) rfl ?_
    refine wpO.alloc H10 rfl ob39 zo39 rfl rfl (fun b11 S12 H13 => ?_)
    refine wpO.store H13 (i := 0) rfl rfl rfl rfl (Tree.cellsA _) rfl sz39 rfl as39 rfl rfl rfl (fun S14 H15 => ?_)
    refine wpO.val rfl (oper_assign rfl) rfl ?_
    refine wpO.nil ?_
    refine WpC.seq ?_
    refine WpC.block ?_
    refine WpC.seq ?_
    refine WpC.region E.obj rfl ?_
    refine wpO.val rfl (oper_move rfl) rfl ?_
    refine wpO.val rfl (oper_not rfl) rfl ?_
    refine wpO.val rfl (oper_assign rfl) rfl ?_
    refine wpO.nil ?_
    refine WpC.cond rfl (fun hb16 => ?_) (fun hb16 => ?_)
    ·
      replace h := if_t hb16 h
      refine WpC.seq ?_
      refine WpC.region E.obj rfl ?_
      refine wpO.val rfl (oper_assign rfl) rfl ?_
      refine wpO.nil ?_
      have hr := Option.some.inj h
      subst hr
      exact WpC.ret ⟨_, rfl, rfl, _, _, _, .refl _, (.refl _), ⟨rfl, rfl⟩, H15.sel [1, 2, 3] (by decide) rfl⟩
    ·
      replace h := if_f hb16 h
      refine WpC.seq ?_
      refine WpC.region E.obj rfl ?_
      refine wpO.val rfl (oper_move rfl) rfl ?_
      refine wpO.val rfl (oper_move rfl) rfl ?_
      obtain ⟨z17, hzz17, h⟩ := bind_some h
      refine wpO.retM (ins := [.box b1 [v3, w5], nestA encdom_node dom_node.kids 7 5 v3 ws4 a2.l none, slkA w5 a2.freed]) (more := [.box b11 [(.d (.str z7.1.Tag)), (.d (.str z7.1.Key)), (.d (.str z7.1.Text)), (.d (.sl ((z7.1.Attrs).map encAttr) false)), (.d (.sl ((z7.1.Kids).map encTree) false))]]) (H15.sel [1, 2, 3, 0] (by decide) rfl) rfl (oper_callF rfl rfl) (dom_Dom_Root_ok E n _ _ hzz17 b1 v3 ws4 w5) (.cons (.refl _) .nil) rfl ?_
      rintro _ S18 _ ⟨rfl, rfl⟩ H19
      replace H19 : Has B0 S18 [.box b1 [v3, w5], nestA encdom_node dom_node.kids 7 5 v3 ws4 a2.l none, slkA w5 a2.freed, .box b11 [(.d (.str z7.1.Tag)), (.d (.str z7.1.Key)), (.d (.str z7.1.Text)), (.d (.sl ((z7.1.Attrs).map encAttr) false)), (.d (.sl ((z7.1.Kids).map encTree) false))]] := H19
      have H20 : Has B0 S18 [.box b11 [(.d (.str z7.1.Tag)), (.d (.str z7.1.Key)), (.d (.str z7.1.Text)), (.d (.sl ((z7.1.Attrs).map encAttr) false)), (.d (.sl ((z7.1.Kids).map encTree) false))], .box b1 [v3, w5], nestA encdom_node dom_node.kids 7 5 v3 ws4 a2.l none, slkA w5 a2.freed] := H19.sel [3, 0, 1, 2] (by decide) rfl
      refine wpO.val rfl (oper_bin rfl rfl binD_eql) rfl ?_
      refine wpO.val rfl (oper_move rfl) rfl ?_
      refine wpO.groupV 4 28 (.d (.bool ((a6 == z17) || (z7.1.Tag == [111, 117, 116, 108, 101, 116])))) ?_ ?_
      ·
        rcases Bool.eq_false_or_eq_true ((a6 == z17)) with hB21 | hB21
        ·
          refine wpO.bool hB21 ?_
          refine wpO.no rfl rfl ?_
          refine wpO.no rfl rfl ?_
          refine wpO.no rfl rfl ?_
          refine wpO.val rfl (oper_pick (b := true) rfl rfl) rfl ?_
          exact wpO.nil ⟨_, rfl, (WeakE.put (WeakE.push rfl (WeakE.push rfl (WeakE.push rfl (WeakE.put (.refl _) (Less.eq (by rw [hB21])))))) (Less.eq (by rw [hB21]; rw [Bool.true_or])))⟩
        ·
          refine wpO.bool hB21 ?_
          refine wpO.val rfl (oper_fieldAddr rfl fo39_0 nz9 rfl) rfl ?_
          refine wpO.val rfl (oper_load H20 (i := 0) rfl rfl (part_one ag9 rfl)) rfl ?_
          refine wpO.val rfl (oper_bin rfl rfl binD_seql) rfl ?_
          refine wpO.val rfl (oper_pick (b := false) rfl rfl) rfl ?_
          exact wpO.nil ⟨_, rfl, (WeakE.put (WeakE.push rfl (WeakE.push rfl (WeakE.push rfl (WeakE.put (.refl _) (Less.eq (by rw [hB21])))))) (Less.eq (by rw [hB21]; rw [Bool.false_or])))⟩
      ·
        refine wpO.val rfl (oper_assign rfl) rfl ?_
        refine wpO.nil ?_
        refine WpC.cond rfl (fun hb22 => ?_) (fun hb22 => ?_)
        ·
          replace h := if_t hb22 h
          refine WpC.seq ?_
          refine WpC.region E.obj rfl ?_
          refine wpO.val rfl (oper_move rfl) rfl ?_
          refine wpO.val rfl (oper_assign rfl) rfl ?_
          refine wpO.nil ?_
          have hr := Option.some.inj h
          subst hr
          exact WpC.ret ⟨_, rfl, rfl, _, _, _, .refl _, (.refl _), ⟨rfl, rfl⟩, H20.sel [1, 2, 3] (by decide) rfl⟩
        ·
          replace h := if_f hb22 h
          refine WpC.skip ?_
          refine WpC.seq ?_
          refine WpC.seq ?_
          refine WpC.region E.obj rfl ?_
          refine wpO.val rfl (oper_move rfl) rfl ?_
          refine wpO.val rfl (oper_move rfl) rfl ?_
          obtain ⟨z23, hzz23, h⟩ := bind_some h
          refine wpO.retM (ins := [.box b1 [v3, w5], nestA encdom_node dom_node.kids 7 5 v3 ws4 a2.l none, slkA w5 a2.freed]) (more := [.box b11 [(.d (.str z7.1.Tag)), (.d (.str z7.1.Key)), (.d (.str z7.1.Text)), (.d (.sl ((z7.1.Attrs).map encAttr) false)), (.d (.sl ((z7.1.Kids).map encTree) false))]]) (H20.sel [1, 2, 3, 0] (by decide) rfl) rfl (oper_callF rfl rfl) (dom_Dom_Kids_ok E n _ _ _ hzz23 b1 v3 ws4 w5) (.cons (.refl _) (.cons (.refl _) .nil)) rfl ?_
          rintro _ S24 _ ⟨rfl, rfl⟩ H25
          replace H25 : Has B0 S24 [.box b1 [v3, w5], nestA encdom_node dom_node.kids 7 5 v3 ws4 a2.l none, slkA w5 a2.freed, .box b11 [(.d (.str z7.1.Tag)), (.d (.str z7.1.Key)), (.d (.str z7.1.Text)), (.d (.sl ((z7.1.Attrs).map encAttr) false)), (.d (.sl ((z7.1.Kids).map encTree) false))]] := H25
          have H26 : Has B0 S24 [.box b11 [(.d (.str z7.1.Tag)), (.d (.str z7.1.Key)), (.d (.str z7.1.Text)), (.d (.sl ((z7.1.Attrs).map encAttr) false)), (.d (.sl ((z7.1.Kids).map encTree) false))], .box b1 [v3, w5], nestA encdom_node dom_node.kids 7 5 v3 ws4 a2.l none, slkA w5 a2.freed] := H25.sel [3, 0, 1, 2] (by decide) rfl
          refine wpO.val rfl (oper_lenL rfl es31) rfl ?_
          refine wpO.val rfl (oper_move rfl) rfl ?_
          refine wpO.nil ?_
          refine WpC.block ?_
          refine WpL.start (B := B0) (α := Int) (fun k a => outlet_Slot_l35 (outlet_Slot n) a2 z23 k a = some r) (fun a => [(0, (.ptr b1 0 0)), (32, (.d (.sl ((z23).map (D.int .i64)) false))), (33, (.d (.int .i64 ((z23).length : Int)))), (34, (.d (.int .i64 a)))]) (fun a => [.box b1 [v3, w5], nestA encdom_node dom_node.kids 7 5 v3 ws4 a2.l none, slkA w5 a2.freed]) ?_ ?_ n ⟨0, _, _, S24, .refl _ _, .refl _, (WeakE.cons rfl (.refl _) (WeakE.cons rfl (.refl _) (WeakE.cons rfl (.refl _) (WeakE.cons rfl (.refl _) WeakE.nil)))), H26.sel [1, 2, 3] (by decide) rfl, h⟩
          · intro a h; simp [outlet_Slot_l35] at h
          ·
            intro k35 x34 S32 H33 h
            replace h : outlet_Slot_l35 (outlet_Slot n) a2 z23 (k35 + 1) x34 = some r := h
            replace H33 : Has B0 S32 [.box b1 [v3, w5], nestA encdom_node dom_node.kids 7 5 v3 ws4 a2.l none, slkA w5 a2.freed] := H33
            unfold outlet_Slot_l35 at h
            refine WpC.seq ?_
            refine WpC.region E.obj rfl ?_
            refine wpO.val rfl (oper_bin rfl rfl binD_lss) rfl ?_
            refine wpO.nil ?_
            refine WpC.seq ?_
            refine WpC.cond rfl (fun hb36 => ?_) (fun hb36 => ?_)
            ·
              replace h := if_t hb36 h
              refine WpC.skip ?_
              refine WpC.seq ?_
              refine WpC.block ?_
              refine WpC.seq ?_
              refine WpC.region E.obj rfl ?_
              obtain ⟨z37, hzz37, h⟩ := bind_some h
              refine wpO.val rfl (oper_idx rfl rfl (idxAddr (enc := (D.int .i64)) hzz37 el31 as3 (((fun _ => rfl) _).trans sz3.symm))) rfl ?_
              refine wpO.val rfl (oper_loadE rfl (partD_one ag3 rfl)) rfl ?_
              refine wpO.val rfl (oper_assign rfl) rfl ?_
              refine wpO.nil ?_
              refine WpC.seq ?_
              refine WpC.region E.obj rfl ?_
              refine wpO.val rfl (oper_move rfl) rfl ?_
              refine wpO.val rfl (oper_move rfl) rfl ?_
              obtain ⟨z38, hzz38, h⟩ := bind_some h
              refine wpO.retM (ins := [.box b1 [v3, w5], nestA encdom_node dom_node.kids 7 5 v3 ws4 a2.l none, slkA w5 a2.freed]) (more := []) (H33.sel [0, 1, 2] (by decide) rfl) rfl (oper_callF rfl rfl) (ih _ _ _ hzz38 b1 v3 ws4 w5) (.cons (.refl _) (.cons (.refl _) .nil)) rfl ?_
              rintro _ S39 _ ⟨rfl, rfl⟩ H40
              replace H40 : Has B0 S39 [.box b1 [v3, w5], nestA encdom_node dom_node.kids 7 5 v3 ws4 a2.l none, slkA w5 a2.freed] := H40
              have H41 : Has B0 S39 [.box b1 [v3, w5], nestA encdom_node dom_node.kids 7 5 v3 ws4 a2.l none, slkA w5 a2.freed] := H40.sel [0, 1, 2] (by decide) rfl
              refine wpO.val rfl (oper_assign rfl) rfl ?_
              refine wpO.nil ?_
              refine WpC.seq ?_
              refine WpC.region E.obj rfl ?_
              refine wpO.val rfl (oper_move rfl) rfl ?_
              refine wpO.val rfl (oper_bin rfl rfl binD_gtr) rfl ?_
              refine wpO.nil ?_
              refine WpC.cond rfl (fun hb42 => ?_) (fun hb42 => ?_)
              ·
                replace h := if_t hb42 h
                refine WpC.seq ?_
                refine WpC.region E.obj rfl ?_
                refine wpO.val rfl (oper_move rfl) rfl ?_
                refine wpO.val rfl (oper_assign rfl) rfl ?_
                refine wpO.nil ?_
                have hr := Option.some.inj h
                subst hr
                exact WpC.ret ⟨_, rfl, rfl, _, _, _, .refl _, (.refl _), ⟨rfl, rfl⟩, H41.sel [0, 1, 2] (by decide) rfl⟩
              ·
                replace h := if_f hb42 h
                refine WpC.skip ?_
                refine WpC.region E.obj rfl ?_
                refine wpO.val rfl (oper_bin rfl rfl binD_add) rfl ?_
                refine wpO.val rfl (oper_move rfl) rfl ?_
                refine wpO.nil ?_
                exact ⟨(IntKind.wrap .i64 (x34 + 1)), _, _, S39, .refl _ _, .refl _, (WeakE.cons rfl (.refl _) (WeakE.cons rfl (.refl _) (WeakE.cons rfl (.refl _) (WeakE.cons rfl (.refl _) WeakE.nil)))), H41.sel [0, 1, 2] (by decide) rfl, h⟩
            ·
              replace h := if_f hb36 h
              refine WpC.exit ?_
              refine WpC.seq ?_
              refine WpC.region E.obj rfl ?_
              refine wpO.val rfl (oper_assign rfl) rfl ?_
              refine wpO.nil ?_
              have hr := Option.some.inj h
              subst hr
              exact WpC.ret ⟨_, rfl, rfl, _, _, _, .refl _, (.refl _), ⟨rfl, rfl⟩, H33.sel [0, 1, 2] (by decide) rfl⟩
set_option maxRecDepth 20000 in
set_option maxHeartbeats 4000000 in
theorem outlet_Hang_ok (n : Nat) (a2 : dom_Dom) (a6 : Int) (a7 : Int) (r : (Bool × dom_Dom)) (h : outlet_Hang n a2 a6 a7 = some r) (b1 : Nat) (v3 : AV) (ws4 : List (List AV)) (w5 : AV) : SpecM R cfg.P 52 [.ptr b1 0 0, .d (.int .i64 a6), .d (.int .i64 a7)] [.box b1 [v3, w5], nestA encdom_node dom_node.kids 7 5 v3 ws4 a2.l none, slkA w5 a2.freed] (fun v l => v = .d (.bool r.1) ∧ ∃ dws0 dw0, l = [.box b1 [v3, dw0], nestA encdom_node dom_node.kids 7 5 v3 dws0 r.2.l none, slkA dw0 r.2.freed]) := by
  unfold outlet_Hang at h
  refine SpecM.of_wp (C := cfg) Try.func52 rfl nm52 rfl (fun B0 S0 H0 => ?_)
  replace H0 : Has B0 S0 [.box b1 [v3, w5], nestA encdom_node dom_node.kids 7 5 v3 ws4 a2.l none, slkA w5 a2.freed] := H0
  refine WpC.seq ?_
  refine WpC.region E.obj rfl ?_
  refine wpO.val rfl (oper_assign rfl) rfl ?_
  refine wpO.nil ?_
  refine WpC.seq ?_
  refine WpC.region E.obj rfl ?_
  refine wpO.val rfl (oper_move rfl) rfl ?_
  refine wpO.val rfl (oper_move rfl) rfl ?_
  obtain ⟨z8, hzz8, h⟩ := bind_some h
  refine wpO.retM (ins := [.box b1 [v3, w5], nestA encdom_node dom_node.kids 7 5 v3 ws4 a2.l none, slkA w5 a2.freed]) (more := []) (H0.sel [0, 1, 2] (by decide) rfl) rfl (oper_callF rfl rfl) (outlet_Slot_ok E n _ _ _ hzz8 b1 v3 ws4 w5) (.cons (.refl _) (.cons (.refl _) .nil)) rfl ?_
  rintro _ S9 _ ⟨rfl, rfl⟩ H10
  replace H10 : Has B0 S9 [.box b1 [v3, w5], nestA encdom_node dom_node.kids 7 5 v3 ws4 a2.l none, slkA w5 a2.freed] := H10
  have H11 : Has B0 S9 [.box b1 [v3, w5], nestA encdom_node dom_node.kids 7 5 v3 ws4 a2.l none, slkA w5 a2.freed] := H10.sel [0, 1, 2] (by decide) rfl
  refine wpO.val rfl (oper_assign rfl) rfl ?_
  refine wpO.nil ?_
  refine WpC.seq ?_
  refine WpC.region E.obj rfl ?_
  refine wpO.val rfl (oper_move rfl) rfl ?_
  refine wpO.val rfl (oper_bin rfl rfl binD_gtr) rfl ?_
  refine wpO.val rfl (oper_move rfl) rfl ?_
  rcases Bool.eq_false_or_eq_true ((decide (0 < z8))) with hB12 | hB12
  ·
    replace h := if_t hB12 h
    refine wpO.bool hB12 ?_
    refine wpO.val rfl (oper_move rfl) rfl ?_
    refine wpO.val rfl (oper_move rfl) rfl ?_
    obtain ⟨z13, hzz13, h⟩ := bind_some h
    refine wpO.retM (ins := [.box b1 [v3, w5], nestA encdom_node dom_node.kids 7 5 v3 ws4 a2.l none, slkA w5 a2.freed]) (more := []) (H11.sel [0, 1, 2] (by decide) rfl) rfl (oper_callF rfl rfl) (dom_Dom_Kids_ok E n _ _ _ hzz13 b1 v3 ws4 w5) (.cons (.refl _) (.cons (.refl _) .nil)) rfl ?_
    rintro _ S14 _ ⟨rfl, rfl⟩ H15
    replace H15 : Has B0 S14 [.box b1 [v3, w5], nestA encdom_node dom_node.kids 7 5 v3 ws4 a2.l none, slkA w5 a2.freed] := H15
    have H16 : Has B0 S14 [.box b1 [v3, w5], nestA encdom_node dom_node.kids 7 5 v3 ws4 a2.l none, slkA w5 a2.freed] := H15.sel [0, 1, 2] (by decide) rfl
    refine wpO.val rfl (oper_lenL rfl es31) rfl ?_
    refine wpO.val rfl (oper_bin rfl rfl binD_eql) rfl ?_
    refine wpO.val rfl (oper_pick (b := true) rfl rfl) rfl ?_
    refine wpO.val rfl (oper_move rfl) rfl ?_
    rcases Bool.eq_false_or_eq_true ((((z13).length : Int) == 0)) with hB17 | hB17
    ·
      replace h := if_t hB17 h
      refine wpO.bool hB17 ?_
      refine wpO.val rfl (oper_move rfl) rfl ?_
      refine wpO.val rfl (oper_move rfl) rfl ?_
      refine wpO.val rfl (oper_move rfl) rfl ?_
      obtain ⟨z18, hzz18, h⟩ := bind_some h
      refine wpO.retM (ins := [.box b1 [v3, w5], nestA encdom_node dom_node.kids 7 5 v3 ws4 a2.l none, slkA w5 a2.freed]) (more := []) (H16.sel [0, 1, 2] (by decide) rfl) rfl (oper_callF rfl rfl) (dom_Dom_Insert_ok E n _ _ _ _ _ hzz18 b1 v3 ws4 w5) (.cons (.refl _) (.cons (.refl _) (.cons (.refl _) (.cons (.refl _) .nil)))) rfl ?_
      rintro _ S21 _ ⟨rfl, ws19, w20, rfl⟩ H22
      replace H22 : Has B0 S21 [.box b1 [v3, w20], nestA encdom_node dom_node.kids 7 5 v3 ws19 z18.2.l none, slkA w20 z18.2.freed] := H22
      have H23 : Has B0 S21 [.box b1 [v3, w20], nestA encdom_node dom_node.kids 7 5 v3 ws19 z18.2.l none, slkA w20 z18.2.freed] := H22.sel [0, 1, 2] (by decide) rfl
      refine wpO.val rfl (oper_pick (b := true) rfl rfl) rfl ?_
      refine wpO.val rfl (oper_assign rfl) rfl ?_
      refine wpO.nil ?_
      have hr := Option.some.inj h
      subst hr
      exact WpC.ret ⟨_, rfl, rfl, _, _, _, .refl _, (.refl _), ⟨rfl, ws19, w20, rfl⟩, H23.sel [0, 1, 2] (by decide) rfl⟩
    ·
      replace h := if_f hB17 h
      refine wpO.bool hB17 ?_
      refine wpO.no rfl rfl ?_
      refine wpO.no rfl rfl ?_
      refine wpO.no rfl rfl ?_
      refine wpO.no rfl rfl ?_
      refine wpO.val rfl (oper_pick (b := false) rfl rfl) rfl ?_
      refine wpO.val rfl (oper_assign rfl) rfl ?_
      refine wpO.nil ?_
      have hr := Option.some.inj h
      subst hr
      exact WpC.ret ⟨_, rfl, rfl, _, _, _, .refl _, (.refl _), ⟨rfl, ws4, w5, rfl⟩, H16.sel [0, 1, 2] (by decide) rfl⟩
  ·
    replace h := if_f hB12 h
    refine wpO.bool hB12 ?_
    refine wpO.no rfl rfl ?_
    refine wpO.no rfl rfl ?_
    refine wpO.no rfl rfl ?_
    refine wpO.no rfl rfl ?_
    refine wpO.no rfl rfl ?_
    refine wpO.val rfl (oper_pick (b := false) rfl rfl) rfl ?_
    refine wpO.val rfl (oper_move rfl) rfl ?_
    refine wpO.no rfl rfl ?_
    refine wpO.no rfl rfl ?_
    refine wpO.no rfl rfl ?_
    refine wpO.no rfl rfl ?_
    refine wpO.val rfl (oper_pick (b := false) rfl rfl) rfl ?_
    refine wpO.val rfl (oper_assign rfl) rfl ?_
    refine wpO.nil ?_
    have hr := Option.some.inj h
    subst hr
    exact WpC.ret ⟨_, rfl, rfl, _, _, _, .refl _, (.refl _), ⟨rfl, ws4, w5, rfl⟩, H11.sel [0, 1, 2] (by decide) rfl⟩
set_option maxRecDepth 20000 in
set_option maxHeartbeats 4000000 in
theorem outlet_Hung_ok (n : Nat) (a2 : dom_Dom) (a6 : Int) (r : Int) (h : outlet_Hung n a2 a6 = some r) (b1 : Nat) (v3 : AV) (ws4 : List (List AV)) (w5 : AV) : SpecM R cfg.P 54 [.ptr b1 0 0, .d (.int .i64 a6)] [.box b1 [v3, w5], nestA encdom_node dom_node.kids 7 5 v3 ws4 a2.l none, slkA w5 a2.freed] (fun v l => v = .d (.int .i64 r) ∧ l = [.box b1 [v3, w5], nestA encdom_node dom_node.kids 7 5 v3 ws4 a2.l none, slkA w5 a2.freed]) := by
  unfold outlet_Hung at h
  refine SpecM.of_wp (C := cfg) Try.func54 rfl nm54 rfl (fun B0 S0 H0 => ?_)
  replace H0 : Has B0 S0 [.box b1 [v3, w5], nestA encdom_node dom_node.kids 7 5 v3 ws4 a2.l none, slkA w5 a2.freed] := H0
  refine WpC.seq ?_
  refine WpC.region E.obj rfl ?_
  refine wpO.val rfl (oper_assign rfl) rfl ?_
  refine wpO.nil ?_
  refine WpC.seq ?_
  refine WpC.region E.obj rfl ?_
  refine wpO.val rfl (oper_move rfl) rfl ?_
  refine wpO.val rfl (oper_move rfl) rfl ?_
  refine wpO.val rfl (oper_move rfl) rfl ?_
  obtain ⟨z7, hzz7, h⟩ := bind_some h
  refine wpO.retM (ins := [.box b1 [v3, w5], nestA encdom_node dom_node.kids 7 5 v3 ws4 a2.l none, slkA w5 a2.freed]) (more := []) (H0.sel [0, 1, 2] (by decide) rfl) rfl (oper_callF rfl rfl) (outlet_Slot_ok E n _ _ _ hzz7 b1 v3 ws4 w5) (.cons (.refl _) (.cons (.refl _) .nil)) rfl ?_
  rintro _ S8 _ ⟨rfl, rfl⟩ H9
  replace H9 : Has B0 S8 [.box b1 [v3, w5], nestA encdom_node dom_node.kids 7 5 v3 ws4 a2.l none, slkA w5 a2.freed] := H9
  have H10 : Has B0 S8 [.box b1 [v3, w5], nestA encdom_node dom_node.kids 7 5 v3 ws4 a2.l none, slkA w5 a2.freed] := H9.sel [0, 1, 2] (by decide) rfl
  obtain ⟨z11, hzz11, h⟩ := bind_some h
  refine wpO.retM (ins := [.box b1 [v3, w5], nestA encdom_node dom_node.kids 7 5 v3 ws4 a2.l none, slkA w5 a2.freed]) (more := []) (H10.sel [0, 1, 2] (by decide) rfl) rfl (oper_callF rfl rfl) (dom_Dom_Kids_ok E n _ _ _ hzz11 b1 v3 ws4 w5) (.cons (.refl _) (.cons (.refl _) .nil)) rfl ?_
  rintro _ S12 _ ⟨rfl, rfl⟩ H13
  replace H13 : Has B0 S12 [.box b1 [v3, w5], nestA encdom_node dom_node.kids 7 5 v3 ws4 a2.l none, slkA w5 a2.freed] := H13
  have H14 : Has B0 S12 [.box b1 [v3, w5], nestA encdom_node dom_node.kids 7 5 v3 ws4 a2.l none, slkA w5 a2.freed] := H13.sel [0, 1, 2] (by decide) rfl
  refine wpO.val rfl (oper_assign rfl) rfl ?_
  refine wpO.nil ?_
  refine WpC.seq ?_
  refine WpC.seq ?_
  refine WpC.region E.obj rfl ?_
  refine wpO.val rfl (oper_move rfl) rfl ?_
  refine wpO.val rfl (oper_lenL rfl es31) rfl ?_
  refine wpO.val rfl (oper_bin rfl rfl binD_eql) rfl ?_
  refine wpO.nil ?_
  refine WpC.cond rfl (fun hb15 => ?_) (fun hb15 => ?_)
  ·
    replace h := if_t hb15 h
    refine WpC.seq ?_
    refine WpC.region E.obj rfl ?_
    refine wpO.val rfl (oper_assign rfl) rfl ?_
    refine wpO.nil ?_
    have hr := Option.some.inj h
    subst hr
    exact WpC.ret ⟨_, rfl, rfl, _, _, _, .refl _, (.refl _), ⟨rfl, rfl⟩, H14.sel [0, 1, 2] (by decide) rfl⟩
  ·
    replace h := if_f hb15 h
    refine WpC.skip ?_
    refine WpC.seq ?_
    refine WpC.region E.obj rfl ?_
    refine wpO.val rfl (oper_move rfl) rfl ?_
    obtain ⟨z16, hzz16, h⟩ := bind_some h
    refine wpO.val rfl (oper_idx rfl rfl (idxAddr (enc := (D.int .i64)) hzz16 el31 as3 (((fun _ => rfl) _).trans sz3.symm))) rfl ?_
    refine wpO.val rfl (oper_loadE rfl (partD_one ag3 rfl)) rfl ?_
    refine wpO.val rfl (oper_assign rfl) rfl ?_
    refine wpO.nil ?_
    have hr := Option.some.inj h
    subst hr
    exact WpC.ret ⟨_, rfl, rfl, _, _, _, .refl _, (.refl _), ⟨rfl, rfl⟩, H14.sel [0, 1, 2] (by decide) rfl⟩
end
end Pr
end Go.Ev


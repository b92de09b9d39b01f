import Derived.Test.YtefjghdjlfhimaaDoorPartD
import Derived.Test.YtefjghdjlfhimaaDoorProg
import Derived.WalkKit
import Derived.ProofKit
import Derived.IntWalk
namespace Go.Ev
namespace Pr
set_option linter.unusedVariables false
set_option linter.unusedSimpArgs false
open Go.Proofs
noncomputable def cfg : Cfg := { P := Tryd.prog, good := fun _ => true, rowT := fun _ => false, prim := fun _ _ _ => none, objT := fun t => bif Nat.beq t 50 then some (1, .str []) else none, hasPrim := fun _ => false }
noncomputable def cfgR1 : Cfg := { cfg with rowT := fun t => Nat.beq t 26 }
noncomputable def cfgR2 : Cfg := { cfg with rowT := fun t => Nat.beq t 26 || Nat.beq t 34 }
theorem nm9 : (Tryd.f9.name == "runtime.NumGoroutine") = false := by kernel_rfl
theorem rw44 : cfg.rowT 44 = false := by kernel_rfl
theorem el44 : elemSl cfg.P 44 = some 9 := by kernel_rfl
theorem ag9 : aggO cfg.P 9 = some false := by kernel_rfl
theorem zo9 : zeroOf cfg.P 9 = some (.str []) := by kernel_rfl
theorem sz9 : szOf cfg.P 9 = 1 := by kernel_rfl
theorem nm18 : (Tryd.f18.name == "runtime.NumGoroutine") = false := by kernel_rfl
theorem es22 : (elemSl cfg.P 22).isSome = true := by kernel_rfl
theorem el22 : elemSl cfg.P 22 = some 3 := by kernel_rfl
theorem as3 : (aggO cfg.P 3).isSome = true := by kernel_rfl
theorem sz3 : szOf cfg.P 3 = 1 := by kernel_rfl
theorem ag3 : aggO cfg.P 3 = some false := by kernel_rfl
theorem nm19 : (Tryd.f19.name == "runtime.NumGoroutine") = false := by kernel_rfl
theorem hmix : cfg.P.follows .mixedOrders = true := by kernel_rfl
theorem nm20 : (Tryd.f20.name == "runtime.NumGoroutine") = false := by kernel_rfl
theorem ob28 : cfg.objT 28 = none := by kernel_rfl
theorem zo28 : zeroOf cfg.P 28 = some (.agg [.str [], .str [], .str [], .nils, .nils]) := by kernel_rfl
theorem el26 : elemSl cfg.P 26 = some 28 := by kernel_rfl
theorem as28 : (aggO cfg.P 28).isSome = true := by kernel_rfl
theorem sz28 : szOf cfg.P 28 = 5 := by kernel_rfl
theorem ag28 : aggO cfg.P 28 = some true := by kernel_rfl
theorem es26 : (elemSl cfg.P 26).isSome = true := by kernel_rfl
theorem fo28_4 : fieldOf cfg.P 28 4 = some (4, 26) := by kernel_rfl
theorem nz26 : Nat.beq (szOf cfg.P 26) 0 = false := by kernel_rfl
theorem ag26 : aggO cfg.P 26 = some false := by kernel_rfl
theorem rw26 : cfg.rowT 26 = false := by kernel_rfl
theorem os26 : okSrc cfg 26 = true := by kernel_rfl
theorem nb28 : bytesOf cfg.P 28 = 96 := by kernel_rfl
theorem zk28 : zeroOk cfg 28 = true := by kernel_rfl
theorem sz26 : szOf cfg.P 26 = 1 := by kernel_rfl
theorem as26 : (aggO cfg.P 26).isSome = true := by kernel_rfl
theorem nm21 : (Tryd.f21.name == "runtime.NumGoroutine") = false := by kernel_rfl
theorem rw22 : cfg.rowT 22 = false := by kernel_rfl
theorem zo3 : zeroOf cfg.P 3 = some (.int .i64 0) := by kernel_rfl
theorem fo24_0 : fieldOf cfg.P 24 0 = some (0, 22) := by kernel_rfl
theorem nz22 : Nat.beq (szOf cfg.P 22) 0 = false := by kernel_rfl
theorem ag22 : aggO cfg.P 22 = some false := by kernel_rfl
theorem fo28_0 : fieldOf cfg.P 28 0 = some (0, 9) := by kernel_rfl
theorem nz9 : Nat.beq (szOf cfg.P 9) 0 = false := by kernel_rfl
theorem fo24_3 : fieldOf cfg.P 24 3 = some (3, 22) := by kernel_rfl
theorem es44 : (elemSl cfg.P 44).isSome = true := by kernel_rfl
theorem as9 : (aggO cfg.P 9).isSome = true := by kernel_rfl
theorem fo24_1 : fieldOf cfg.P 24 1 = some (1, 22) := by kernel_rfl
theorem fo24_2 : fieldOf cfg.P 24 2 = some (2, 22) := by kernel_rfl
theorem us3 : (cfg.P.underlying 3).isSome = true := by kernel_rfl
theorem it5 : intT cfg.P 5 = some .u8 := by kernel_rfl
theorem rw34 : cfg.rowT 34 = false := by kernel_rfl
theorem el34 : elemSl cfg.P 34 = some 5 := by kernel_rfl
theorem ag5 : aggO cfg.P 5 = some false := by kernel_rfl
theorem zo5 : zeroOf cfg.P 5 = some (.int .u8 0) := by kernel_rfl
theorem sz5 : szOf cfg.P 5 = 1 := by kernel_rfl
theorem bs34 : byteSl cfg 34 = true := by kernel_rfl
theorem st9 : strT cfg.P 9 = true := by kernel_rfl
theorem fo28_1 : fieldOf cfg.P 28 1 = some (1, 9) := by kernel_rfl
theorem zo36 : zeroOf cfg.P 36 = some (.agg [.str [], .str []]) := by kernel_rfl
theorem rw25 : cfg.rowT 25 = false := by kernel_rfl
theorem el25 : elemSl cfg.P 25 = some 36 := by kernel_rfl
theorem ag36 : aggO cfg.P 36 = some true := by kernel_rfl
theorem sz36 : szOf cfg.P 36 = 2 := by kernel_rfl
theorem fo28_3 : fieldOf cfg.P 28 3 = some (3, 25) := by kernel_rfl
theorem nz25 : Nat.beq (szOf cfg.P 25) 0 = false := by kernel_rfl
theorem sz25 : szOf cfg.P 25 = 1 := by kernel_rfl
theorem as25 : (aggO cfg.P 25).isSome = true := by kernel_rfl
theorem os22 : okSrc cfg 22 = true := by kernel_rfl
theorem nb3 : bytesOf cfg.P 3 = 8 := by kernel_rfl
theorem zk3 : zeroOk cfg 3 = true := by kernel_rfl
theorem nm6 : (Tryd.f6.name == "runtime.NumGoroutine") = false := by kernel_rfl
theorem es25 : (elemSl cfg.P 25).isSome = true := by kernel_rfl
theorem as36 : (aggO cfg.P 36).isSome = true := by kernel_rfl
theorem nm24 : (Tryd.f24.name == "runtime.NumGoroutine") = false := by kernel_rfl
theorem fo28_2 : fieldOf cfg.P 28 2 = some (2, 9) := by kernel_rfl
theorem ag25 : aggO cfg.P 25 = some false := by kernel_rfl
theorem nm8 : (Tryd.f8.name == "runtime.NumGoroutine") = false := by kernel_rfl
theorem nm25 : (Tryd.f25.name == "runtime.NumGoroutine") = false := by kernel_rfl
theorem us25s : cfg.P.underlying 25 = some (.slice 36) := by kernel_rfl
theorem os25 : okSrc cfg 25 = true := by kernel_rfl
theorem nb36 : bytesOf cfg.P 36 = 32 := by kernel_rfl
theorem zk36 : zeroOk cfg 36 = true := by kernel_rfl
theorem nm26 : (Tryd.f26.name == "runtime.NumGoroutine") = false := by kernel_rfl
theorem us26s : cfg.P.underlying 26 = some (.slice 28) := by kernel_rfl
theorem bs26xR1 : asRow cfgR1 26 0 = false := by kernel_rfl
theorem rw26R1 : cfgR1.rowT 26 = true := by kernel_rfl
theorem os26R1 : okSrc cfgR1 26 = true := by kernel_rfl
theorem zk28R1 : zeroOk cfgR1 28 = true := by kernel_rfl
theorem ob28R1 : cfgR1.objT 28 = none := by kernel_rfl
theorem nm10 : (Tryd.f10.name == "runtime.NumGoroutine") = false := by kernel_rfl
theorem nm14 : (Tryd.f14.name == "runtime.NumGoroutine") = false := by kernel_rfl
theorem nm15 : (Tryd.f15.name == "runtime.NumGoroutine") = false := by kernel_rfl
theorem fo36_0 : fieldOf cfg.P 36 0 = some (0, 9) := by kernel_rfl
theorem nm36 : (Tryd.f36.name == "runtime.NumGoroutine") = false := by kernel_rfl
theorem nm46 : (Tryd.f46.name == "runtime.NumGoroutine") = false := by kernel_rfl
theorem nm37 : (Tryd.f37.name == "runtime.NumGoroutine") = false := by kernel_rfl
theorem ob36 : cfg.objT 36 = none := by kernel_rfl
theorem fo36_1 : fieldOf cfg.P 36 1 = some (1, 9) := by kernel_rfl
theorem ue25 : (cfg.P.underlying 36).isSome = true := by kernel_rfl
theorem nm33 : (Tryd.f33.name == "runtime.NumGoroutine") = false := by kernel_rfl
theorem nm27 : (Tryd.f27.name == "runtime.NumGoroutine") = false := by kernel_rfl
theorem nm11 : (Tryd.f11.name == "runtime.NumGoroutine") = false := by kernel_rfl
theorem ob50 : cfg.objT 50 = some (1, .str []) := by kernel_rfl
theorem nm31 : (Tryd.f31.name == "runtime.NumGoroutine") = false := by kernel_rfl
theorem nm22 : (Tryd.f22.name == "runtime.NumGoroutine") = false := by kernel_rfl
theorem nm7 : (Tryd.f7.name == "runtime.NumGoroutine") = false := by kernel_rfl
theorem ag24 : aggO cfg.P 24 = some true := by kernel_rfl
theorem sz24 : szOf cfg.P 24 = 4 := by kernel_rfl
theorem ub4 : cfg.P.underlying 4 = some .bool := by kernel_rfl
theorem ob28R2 : cfgR2.objT 28 = none := by kernel_rfl
theorem nb5 : bytesOf cfg.P 5 = 1 := by kernel_rfl
theorem rw34R2 : cfgR2.rowT 34 = true := by kernel_rfl
theorem bs34R2 : byteSl cfgR2 34 = true := by kernel_rfl
theorem rw25R2 : cfgR2.rowT 25 = false := by kernel_rfl
theorem rw26R2 : cfgR2.rowT 26 = true := by kernel_rfl
theorem nm3 : (Tryd.f3.name == "runtime.NumGoroutine") = false := by kernel_rfl
theorem place_struct28 : oper.P_place cfg 28 = some (placeL [(0, 1), (1, 1), (2, 1), (3, 1), (4, 1)]) := placeL_of (by kernel_rfl)
theorem place_struct36 : oper.P_place cfg 36 = some (placeL [(0, 1), (1, 1)]) := placeL_of (by kernel_rfl)
theorem place_struct28R2 : oper.P_place cfgR2 28 = some (placeL [(0, 1), (1, 1), (2, 1), (3, 1), (4, 1)]) := placeL_of (by kernel_rfl)
theorem place_struct36R2 : oper.P_place cfgR2 36 = some (placeL [(0, 1), (1, 1)]) := placeL_of (by kernel_rfl)
theorem eqD36 (x y : Attr) : AV.eqv cfg.P 36 (.d (.agg [(.str x.Name), (.str x.Value)])) (.d (.agg [(.str y.Name), (.str y.Value)])) = some (Attr.beq x y) :=
  eqv_flat (by kernel_rfl) Tryd.underlying36 (by kernel_rfl) (by kernel_rfl)
/-- What is asked of the world and of the library. -/
structure PrOk (R : ObjR) : Prop where
  obj : ObjOkC R cfg
  strings_Trim_ok : ∀ (n : Nat) (x0 : Str) (x1 : Str) (r : Str), strings_Trim n x0 x1 = some r → SpecC R cfg.P 35 [(.str x0), (.str x1)] (.d (.str r))
  porticolaw13_ShapeRuns_ok : ∀ (n : Nat) (r : Bool), porticolaw13_ShapeRuns n = some r → SpecC R cfg.P 12 [] (.d (.bool r))
  bld : BldOk R cfg.P 32 30 23
section
variable {R : ObjR} (E : PrOk R)
include E
theorem objR1 : ObjOkC R cfgR1 := ⟨E.obj.toObjOk, E.obj.new⟩
theorem objR2 : ObjOkC R cfgR2 := ⟨E.obj.toObjOk, E.obj.new⟩
set_option maxRecDepth 20000 in
set_option maxHeartbeats 4000000 in
theorem porticobook_Within_ok (n : Nat) (a1 : Int) (a2 : Int) (a3 : Int) (r : Int) (h : porticobook_Within n a1 a2 a3 = some r) : SpecC R cfg.P 9 [(.int .i64 a1), (.int .i64 a2), (.int .i64 a3)] (.d (.int .i64 r)) := by
  unfold porticobook_Within at h
  refine SpecC.of_wp E.obj.toObjOk (C := cfg) Tryd.func9 rfl nm9 rfl ?_
  have H0 : Has pureSt pureSt [] := Has.pure
  refine WpC.seq ?_
  refine WpC.region E.obj rfl ?_
  refine wpO.val rfl (oper_assign rfl) rfl ?_
  refine wpO.nil ?_
  refine WpC.seq ?_
  refine WpC.region E.obj rfl ?_
  refine wpO.val rfl (oper_move rfl) rfl ?_
  refine wpO.val rfl (oper_move rfl) rfl ?_
  refine wpO.val rfl (oper_move rfl) rfl ?_
  refine wpO.val rfl (oper_bin rfl rfl binD_sub) rfl ?_
  refine wpO.val rfl (oper_bin rfl rfl binD_add) rfl ?_
  obtain ⟨z4, hzz4, h⟩ := bind_some h
  refine wpO.val rfl (oper_bin rfl rfl (binD_remI hzz4)) rfl ?_
  refine wpO.val rfl (oper_assign rfl) rfl ?_
  refine wpO.nil ?_
  refine WpC.join (B := pureSt) (α := Int) (fun a => porticobook_Within_j8 a2 a = some r) (fun a => [(0, (.d (.int .i64 a))), (1, (.d (.int .i64 a2)))]) (fun a => []) ?_ ?_
  ·
    intro x7 S5 H6 h
    replace h : porticobook_Within_j8 a2 x7 = some r := h
    replace H6 : Has pureSt S5 [] := H6
    unfold porticobook_Within_j8 at h
    refine WpC.seq ?_
    refine WpC.region E.obj rfl ?_
    refine wpO.val rfl (oper_move rfl) rfl ?_
    refine wpO.val rfl (oper_move rfl) rfl ?_
    refine wpO.val rfl (oper_bin rfl rfl binD_add) rfl ?_
    refine wpO.val rfl (oper_assign rfl) rfl ?_
    refine wpO.nil ?_
    have hr := Option.some.inj h
    subst hr
    exact WpC.ret ⟨_, rfl, rfl, end1 (ArgsC.eq .nil)⟩
  ·
    refine WpC.seq ?_
    refine WpC.region E.obj rfl ?_
    refine wpO.val rfl (oper_move rfl) rfl ?_
    refine wpO.val rfl (oper_bin rfl rfl binD_lss) rfl ?_
    refine wpO.nil ?_
    refine WpC.cond rfl (fun hb9 => ?_) (fun hb9 => ?_)
    ·
      replace h := if_t hb9 h
      refine WpC.region E.obj rfl ?_
      refine wpO.val rfl (oper_move rfl) rfl ?_
      refine wpO.val rfl (oper_move rfl) rfl ?_
      refine wpO.val rfl (oper_bin rfl rfl binD_add) rfl ?_
      refine wpO.val rfl (oper_move rfl) rfl ?_
      refine wpO.val rfl (oper_bin rfl rfl binD_sub) rfl ?_
      refine wpO.val rfl (oper_bin rfl rfl binD_add) rfl ?_
      refine wpO.val rfl (oper_assign rfl) rfl ?_
      refine wpO.nil ?_
      exact ⟨(IntKind.wrap .i64 ((IntKind.wrap .i64 ((IntKind.wrap .i64 (z4 + a3)) - a2)) + 1)), _, _, pureSt, .refl _ _, .refl _, (WeakE.cons rfl (.refl _) (WeakE.cons rfl (.refl _) WeakE.nil)), H0.sel [] (by decide) rfl, h⟩
    ·
      replace h := if_f hb9 h
      refine WpC.skip ?_
      exact ⟨z4, _, _, pureSt, .refl _ _, .refl _, (WeakE.cons rfl (.refl _) (WeakE.cons rfl (.refl _) WeakE.nil)), H0.sel [] (by decide) rfl, h⟩
set_option maxRecDepth 20000 in
set_option maxHeartbeats 4000000 in
theorem porticokeep_Words_ok (n : Nat)  (r : (List Str)) (h : porticokeep_Words n  = some r) : SpecC R cfg.P 18 [] (.d (.sl ((r).map D.str) false)) := by
  unfold porticokeep_Words at h
  refine SpecC.of_wp E.obj.toObjOk (C := cfg) Tryd.func18 rfl nm18 rfl ?_
  have H0 : Has pureSt pureSt [] := Has.pure
  refine WpC.seq ?_
  refine WpC.region E.obj rfl ?_
  refine wpO.val rfl (oper_assign rfl) rfl ?_
  refine wpO.nil ?_
  refine WpC.seq ?_
  refine WpC.region E.obj rfl ?_
  refine wpO.val rfl (oper_buildSlice (vs := [(.d (.str [97])), (.d (.str [98])), (.d (.str [105, 116, 101, 109])), (.d (.str [120, 32, 121])), (.d (.str [37])), (.d (.str [97, 47, 98])), (.d (.str [46, 46])), (.d (.str [122])), (.d (.str [49])), (.d (.str [108, 105, 115, 116])), (.d (.str [255])), (.d (.str [63, 61, 38]))]) (ds := [(.str [97]), (.str [98]), (.str [105, 116, 101, 109]), (.str [120, 32, 121]), (.str [37]), (.str [97, 47, 98]), (.str [46, 46]), (.str [122]), (.str [49]), (.str [108, 105, 115, 116]), (.str [255]), (.str [63, 61, 38])]) rw44 el44 ag9 zo9 sz9 rfl (by decide) (.cons rfl rfl (.cons rfl rfl (.cons rfl rfl (.cons rfl rfl (.cons rfl rfl (.cons rfl rfl (.cons rfl rfl (.cons rfl rfl (.cons rfl rfl (.cons rfl rfl (.cons rfl rfl (.cons rfl rfl .nil)))))))))))) rfl (by intro d hd; simp only [List.mem_cons, List.not_mem_nil, or_false] at hd; rcases hd with rfl | rfl | rfl | rfl | rfl | rfl | rfl | rfl | rfl | rfl | rfl | rfl <;> rfl) rfl) rfl ?_
  refine wpO.val rfl (oper_assign rfl) rfl ?_
  refine wpO.nil ?_
  have hr := Option.some.inj h
  subst hr
  exact WpC.ret ⟨_, rfl, rfl, end1 (ArgsC.consW rfl (.untight _ _) .nil)⟩
set_option maxRecDepth 20000 in
set_option maxHeartbeats 4000000 in
theorem porticokeep_pick_ok (n : Nat) (a1 : (List Int)) (a2 : Int) (r : Int) (h : porticokeep_pick n a1 a2 = some r) : SpecC R cfg.P 19 [(.sl ((a1).map (D.int .i64)) false), (.int .i64 a2)] (.d (.int .i64 r)) := by
  unfold porticokeep_pick at h
  refine SpecC.of_wp E.obj.toObjOk (C := cfg) Tryd.func19 rfl nm19 rfl ?_
  have H0 : Has pureSt pureSt [] := Has.pure
  refine WpC.seq ?_
  refine WpC.region E.obj rfl ?_
  refine wpO.val rfl (oper_assign rfl) rfl ?_
  refine wpO.nil ?_
  refine WpC.seq ?_
  refine WpC.seq ?_
  refine WpC.region E.obj rfl ?_
  refine wpO.val rfl (oper_move rfl) rfl ?_
  refine wpO.val rfl (oper_lenL rfl es22) rfl ?_
  refine wpO.val rfl (oper_bin rfl rfl binD_eql) rfl ?_
  refine wpO.nil ?_
  refine WpC.cond rfl (fun hb3 => ?_) (fun hb3 => ?_)
  ·
    replace h := if_t hb3 h
    refine WpC.seq ?_
    refine WpC.region E.obj rfl ?_
    refine wpO.val rfl (oper_assign rfl) rfl ?_
    refine wpO.nil ?_
    have hr := Option.some.inj h
    subst hr
    exact WpC.ret ⟨_, rfl, rfl, end1 (ArgsC.eq .nil)⟩
  ·
    replace h := if_f hb3 h
    refine WpC.skip ?_
    refine WpC.seq ?_
    refine WpC.region E.obj rfl ?_
    refine wpO.val rfl (oper_move rfl) rfl ?_
    refine wpO.val rfl (oper_move rfl) rfl ?_
    refine wpO.val rfl (oper_move rfl) rfl ?_
    refine wpO.val rfl (oper_lenL rfl es22) rfl ?_
    obtain ⟨z4, hzz4, h⟩ := bind_some h
    refine wpO.val rfl (oper_bin rfl rfl (binD_remI hzz4)) rfl ?_
    obtain ⟨z5, hzz5, h⟩ := bind_some h
    refine wpO.val rfl (oper_idx rfl rfl (idxAddr (enc := (D.int .i64)) hzz5 el22 as3 (((fun _ => rfl) _).trans sz3.symm))) rfl ?_
    refine wpO.val rfl (oper_loadE rfl (partD_one ag3 rfl)) rfl ?_
    refine wpO.val rfl (oper_assign rfl) rfl ?_
    refine wpO.nil ?_
    have hr := Option.some.inj h
    subst hr
    exact WpC.ret ⟨_, rfl, rfl, end1 (ArgsC.eq .nil)⟩
set_option maxRecDepth 20000 in
set_option maxHeartbeats 4000000 in
theorem porticokeep_deep_ok (n : Nat) (a1 : (List Int)) (a2 : Int) (r : Int) (h : porticokeep_deep n a1 a2 = some r) : SpecC R cfg.P 20 [(.sl ((a1).map (D.int .i64)) false), (.int .i64 a2)] (.d (.int .i64 r)) := by
  unfold porticokeep_deep at h
  refine SpecC.of_wp E.obj.toObjOk (C := cfg) Tryd.func20 rfl nm20 rfl ?_
  have H0 : Has pureSt pureSt [] := Has.pure
  refine WpC.seq ?_
  refine WpC.region E.obj rfl ?_
  refine wpO.val rfl (oper_assign rfl) rfl ?_
  refine wpO.nil ?_
  refine WpC.seq ?_
  refine WpC.region E.obj rfl ?_
  refine wpO.val rfl (oper_assign rfl) rfl ?_
  refine wpO.nil ?_
  refine WpC.seq ?_
  refine WpC.block ?_
  refine WpL.start (B := pureSt) (α := Int × Int) (fun k a => porticokeep_deep_l13 a1 k a.1 a.2 = some r) (fun a => [(0, (.d (.sl ((a1).map (D.int .i64)) false))), (1, (.d (.int .i64 a.1))), (5, (.d (.int .i64 a.2)))]) (fun a => []) ?_ ?_ n ⟨⟨a2, 0⟩, _, _, pureSt, .refl _ _, .refl _, (WeakE.cons rfl (.refl _) (WeakE.cons rfl (.refl _) (WeakE.cons rfl (.refl _) WeakE.nil))), H0.sel [] (by decide) rfl, h⟩
  · intro a h; simp [porticokeep_deep_l13] at h
  ·
    intro k13 a S9 H10 h
    obtain ⟨x11, x12⟩ := a
    replace h : porticokeep_deep_l13 a1 (k13 + 1) x11 x12 = some r := h
    replace H10 : Has pureSt S9 [] := H10
    unfold porticokeep_deep_l13 at h
    refine WpC.seq ?_
    refine WpC.seq ?_
    refine WpC.region E.obj rfl ?_
    refine wpO.val rfl (oper_move rfl) rfl ?_
    refine wpO.val rfl (oper_bin rfl rfl binD_geq) rfl ?_
    refine wpO.val rfl (oper_move rfl) rfl ?_
    refine wpO.groupV 3 11 (.d (.bool ((decide (0 ≤ x11)) && (decide (x12 < 99))))) ?_ ?_
    ·
      rcases Bool.eq_false_or_eq_true ((decide (0 ≤ x11))) with hB14 | hB14
      ·
        refine wpO.bool hB14 ?_
        refine wpO.val rfl (oper_move rfl) rfl ?_
        refine wpO.val rfl (oper_bin rfl rfl binD_lss) rfl ?_
        refine wpO.val rfl (oper_pick (b := true) rfl rfl) rfl ?_
        exact wpO.nil ⟨_, rfl, (WeakE.put (WeakE.push rfl (WeakE.push rfl (WeakE.put (.refl _) (Less.eq (by rw [hB14]))))) (Less.eq (by rw [hB14]; rw [Bool.true_and])))⟩
      ·
        refine wpO.bool hB14 ?_
        refine wpO.no rfl rfl ?_
        refine wpO.no rfl rfl ?_
        refine wpO.val rfl (oper_pick (b := false) rfl rfl) rfl ?_
        exact wpO.nil ⟨_, rfl, (WeakE.put (WeakE.push rfl (WeakE.push rfl (WeakE.put (.refl _) (Less.eq (by rw [hB14]))))) (Less.eq (by rw [hB14]; rw [Bool.false_and])))⟩
    ·
      refine wpO.nil ?_
      refine WpC.cond rfl (fun hb15 => ?_) (fun hb15 => ?_)
      ·
        replace h := if_t hb15 h
        refine WpC.skip ?_
        refine WpC.block ?_
        obtain ⟨z16, hzz16, h⟩ := bind_some h
        refine WpC.drawP E.obj hmix [[(5, none)], [(12, some 0)], [(0, none)], [(1, none)], [(14, some 2), (15, some 3)], [(16, some 4)], [(13, some 1)], [(17, some 5)]] [(0, none), (1, some 7), (5, some 6)] (by kernel_rfl) [] (by decide) [some (.d (.int .i64 x12)), some (.d (.int .i64 (IntKind.wrap .i64 (x12 + 1)))), some (.d (.sl ((a1).map (D.int .i64)) false)), some (.d (.int .i64 x11)), some (.eptr (.int .i64 z16) 0), some (.d (.int .i64 z16)), some (.d (.int .i64 (IntKind.wrap .i64 (x12 + 1)))), some (.d (.int .i64 z16))] ?_
        refine ⟨[0, 1, 2, 3, 4, 5, 6, 7], by kernel_rfl, ?_, _, rfl, ?_⟩
        ·
          refine .cons rfl rfl rfl (.step ?_) ?_
          ·
            refine wpO.val rfl (oper_move rfl) rfl ?_
            exact wpO.nil ⟨_, _, rfl, fun _ ht => by cases ht; exact ⟨rfl, .refl _⟩⟩
          refine .cons rfl rfl rfl (.step ?_) ?_
          ·
            refine wpO.val rfl (oper_bin rfl rfl binD_add) rfl ?_
            exact wpO.nil ⟨_, _, rfl, fun _ ht => by cases ht; exact ⟨rfl, .refl _⟩⟩
          refine .cons rfl rfl rfl (.step ?_) ?_
          ·
            refine wpO.val rfl (oper_move rfl) rfl ?_
            exact wpO.nil ⟨_, _, rfl, fun _ ht => by cases ht; exact ⟨rfl, .refl _⟩⟩
          refine .cons rfl rfl rfl (.step ?_) ?_
          ·
            refine wpO.val rfl (oper_move rfl) rfl ?_
            exact wpO.nil ⟨_, _, rfl, fun _ ht => by cases ht; exact ⟨rfl, .refl _⟩⟩
          refine .cons rfl rfl rfl (.step ?_) ?_
          ·
            refine wpO.val rfl (oper_idx rfl rfl (idxAddr (enc := (D.int .i64)) hzz16 el22 as3 (((fun _ => rfl) _).trans sz3.symm))) rfl ?_
            exact wpO.nil ⟨_, _, rfl, fun _ ht => by cases ht; exact ⟨rfl, .refl _⟩⟩
          refine .cons rfl rfl rfl (.step ?_) ?_
          ·
            refine wpO.val rfl (oper_loadE rfl (partD_one ag3 rfl)) rfl ?_
            exact wpO.nil ⟨_, _, rfl, fun _ ht => by cases ht; exact ⟨rfl, .refl _⟩⟩
          refine .cons rfl rfl rfl (.step ?_) ?_
          ·
            refine wpO.val rfl (oper_assign rfl) rfl ?_
            exact wpO.nil ⟨_, _, rfl, fun _ ht => by cases ht; exact ⟨rfl, .refl _⟩⟩
          refine .cons rfl rfl rfl (.step ?_) ?_
          ·
            refine wpO.val rfl (oper_assign rfl) rfl ?_
            exact wpO.nil ⟨_, _, rfl, fun _ ht => by cases ht; exact ⟨rfl, .refl _⟩⟩
          exact .nil
        exact ⟨⟨z16, (IntKind.wrap .i64 (x12 + 1))⟩, _, _, S9, .refl _ _, .refl _, (WeakE.cons rfl (.refl _) (WeakE.cons rfl (.refl _) (WeakE.cons rfl (.refl _) WeakE.nil))), H10.sel [] (by decide) rfl, h⟩
      ·
        replace h := if_f hb15 h
        refine WpC.exit ?_
        refine WpC.seq ?_
        refine WpC.region E.obj rfl ?_
        refine wpO.val rfl (oper_move rfl) rfl ?_
        refine wpO.val rfl (oper_assign rfl) rfl ?_
        refine wpO.nil ?_
        have hr := Option.some.inj h
        subst hr
        exact WpC.ret ⟨_, rfl, rfl, end1 (ArgsC.eq .nil)⟩
set_option maxRecDepth 20000 in
set_option maxHeartbeats 4000000 in
theorem porticokeep_grow_ok : ∀ (n : Nat) (a1 : (List Tree0)) (a2 : (List Int)) (a3 : Int) (r : Tree), porticokeep_grow n a1 a2 a3 = some r → SpecC R cfg.P 21 [(.sl ((a1).map encTree0) false), (.sl ((a2).map (D.int .i64)) false), (.int .i64 a3)] (.d (encTree r))
  | 0, a1, a2, a3, r, h => by simp [porticokeep_grow] at h
  | n + 1, a1, a2, a3, r, h => by
    have ih := porticokeep_grow_ok n
    unfold porticokeep_grow at h
    refine SpecC.of_wp E.obj.toObjOk (C := cfg) Tryd.func21 rfl nm21 rfl ?_
    have H0 : Has pureSt pureSt [] := Has.pure
    refine WpC.seq ?_
    refine WpC.region E.obj rfl ?_
    refine wpO.alloc H0 rfl ob28 zo28 rfl rfl (fun b4 S5 H6 => ?_)
    refine wpO.nil ?_
    refine WpC.seq ?_
    refine WpC.region E.obj rfl ?_
    refine wpO.val rfl (oper_move rfl) rfl ?_
    refine wpO.val rfl (oper_move rfl) rfl ?_
    obtain ⟨z7, hzz7, h⟩ := bind_some h
    refine wpO.val rfl (oper_idx rfl rfl (idxAddr (enc := encTree0) hzz7 el26 as28 ((Tree0.len _).trans sz28.symm))) rfl ?_
    refine wpO.val rfl (oper_loadE rfl (Tree0.partW ag28 sz28)) rfl ?_
    refine wpO.alloc H6 rfl ob28 zo28 rfl rfl (fun b8 S9 H10 => ?_)
    refine wpO.store H10 (i := 0) rfl rfl rfl rfl (Tree0.cellsA _) rfl sz28 rfl as28 rfl rfl rfl (fun S11 H12 => ?_)
    refine wpO.nil ?_
    refine WpC.seq ?_
    refine WpC.seq ?_
    refine WpC.region E.obj rfl ?_
    refine wpO.val rfl (oper_move rfl) rfl ?_
    refine wpO.val rfl (oper_lenL rfl es26) rfl ?_
    refine wpO.val rfl (oper_move rfl) rfl ?_
    refine wpO.nil ?_
    refine WpC.block ?_
    have H48 := H12.nilG
    refine WpL.start (B := pureSt) (α := (List Tree) × AV × Int) (fun k a => porticokeep_grow_l25 (porticokeep_grow n) a1 a2 a3 z7 k a.1 a.2.2 = some r) (fun a => [(0, (.d (.sl ((a1).map encTree0) false))), (1, (.d (.sl ((a2).map (D.int .i64)) false))), (2, (.d (.int .i64 a3))), (6, (.ptr b4 0 0)), (7, (.ptr b8 0 0)), (14, (.d (.int .i64 ((a1).length : Int)))), (15, (.d (.int .i64 a.2.2)))]) (fun a => [.box b8 [(.d (.str z7.Tag)), (.d (.str z7.Key)), (.d (.str z7.Text)), (.d (.sl ((z7.Attrs).map encAttr) false)), a.2.1], .box b4 [(.d (.str [])), (.d (.str [])), (.d (.str [])), (.d .nils), (.d .nils)], .grow a.2.1 ((a.1).map encTree)]) ?_ ?_ n ⟨⟨[], (.d .nils), 0⟩, _, _, S11, .refl _ _, .refl _, (WeakE.cons rfl (.refl _) (WeakE.cons rfl (.refl _) (WeakE.cons rfl (.refl _) (WeakE.cons rfl (.refl _) (WeakE.cons rfl (.refl _) (WeakE.cons rfl (.refl _) (WeakE.cons rfl (.refl _) WeakE.nil))))))), H48.sel [1, 2, 0] (by decide) rfl, h⟩
    · intro a h; simp [porticokeep_grow_l25] at h
    ·
      intro k25 a S20 H21 h
      obtain ⟨x22, v23, x24⟩ := a
      replace h : porticokeep_grow_l25 (porticokeep_grow n) a1 a2 a3 z7 (k25 + 1) x22 x24 = some r := h
      replace H21 : Has pureSt S20 [.box b8 [(.d (.str z7.Tag)), (.d (.str z7.Key)), (.d (.str z7.Text)), (.d (.sl ((z7.Attrs).map encAttr) false)), v23], .box b4 [(.d (.str [])), (.d (.str [])), (.d (.str [])), (.d .nils), (.d .nils)], .grow v23 ((x22).map encTree)] := H21
      unfold porticokeep_grow_l25 at h
      refine WpC.seq ?_
      refine WpC.region E.obj rfl ?_
      refine wpO.val rfl (oper_bin rfl rfl binD_lss) rfl ?_
      refine wpO.nil ?_
      refine WpC.seq ?_
      refine WpC.cond rfl (fun hb26 => ?_) (fun hb26 => ?_)
      ·
        replace h := if_t hb26 h
        refine WpC.skip ?_
        refine WpC.join (B := pureSt) (α := (List Tree) × AV) (fun a => porticokeep_grow_j31 x24 (porticokeep_grow_l25 (porticokeep_grow n) a1 a2 a3 z7 k25) a.1 = some r) (fun a => [(0, (.d (.sl ((a1).map encTree0) false))), (1, (.d (.sl ((a2).map (D.int .i64)) false))), (2, (.d (.int .i64 a3))), (6, (.ptr b4 0 0)), (7, (.ptr b8 0 0)), (14, (.d (.int .i64 ((a1).length : Int)))), (15, (.d (.int .i64 x24)))]) (fun a => [.box b8 [(.d (.str z7.Tag)), (.d (.str z7.Key)), (.d (.str z7.Text)), (.d (.sl ((z7.Attrs).map encAttr) false)), a.2], .box b4 [(.d (.str [])), (.d (.str [])), (.d (.str [])), (.d .nils), (.d .nils)], .grow a.2 ((a.1).map encTree)]) ?_ ?_
        ·
          intro a S27 H28 h
          obtain ⟨x29, v30⟩ := a
          replace h : porticokeep_grow_j31 x24 (porticokeep_grow_l25 (porticokeep_grow n) a1 a2 a3 z7 k25) x29 = some r := h
          replace H28 : Has pureSt S27 [.box b8 [(.d (.str z7.Tag)), (.d (.str z7.Key)), (.d (.str z7.Text)), (.d (.sl ((z7.Attrs).map encAttr) false)), v30], .box b4 [(.d (.str [])), (.d (.str [])), (.d (.str [])), (.d .nils), (.d .nils)], .grow v30 ((x29).map encTree)] := H28
          unfold porticokeep_grow_j31 at h
          refine WpC.region E.obj rfl ?_
          refine wpO.val rfl (oper_bin rfl rfl binD_add) rfl ?_
          refine wpO.val rfl (oper_move rfl) rfl ?_
          refine wpO.nil ?_
          exact ⟨⟨x29, v30, (IntKind.wrap .i64 (x24 + 1))⟩, _, _, S27, .refl _ _, .refl _, (WeakE.cons rfl (.refl _) (WeakE.cons rfl (.refl _) (WeakE.cons rfl (.refl _) (WeakE.cons rfl (.refl _) (WeakE.cons rfl (.refl _) (WeakE.cons rfl (.refl _) (WeakE.cons rfl (.refl _) WeakE.nil))))))), H28.sel [0, 1, 2] (by decide) rfl, h⟩
        ·
          refine WpC.block ?_
          refine WpC.seq ?_
          refine WpC.region E.obj rfl ?_
          refine wpO.val rfl (oper_move rfl) rfl ?_
          refine wpO.val rfl (oper_assign rfl) rfl ?_
          refine wpO.nil ?_
          refine WpC.seq ?_
          refine WpC.region E.obj rfl ?_
          refine wpO.val rfl (oper_move rfl) rfl ?_
          refine wpO.val rfl (oper_move rfl) rfl ?_
          obtain ⟨z32, hzz32, h⟩ := bind_some h
          refine wpO.val rfl (oper_idx rfl rfl (idxAddr (enc := (D.int .i64)) hzz32 el22 as3 (((fun _ => rfl) _).trans sz3.symm))) rfl ?_
          refine wpO.val rfl (oper_loadE rfl (partD_one ag3 rfl)) rfl ?_
          refine wpO.val rfl (oper_move rfl) rfl ?_
          refine wpO.val rfl (oper_bin rfl rfl binD_eql) rfl ?_
          refine wpO.nil ?_
          refine WpC.cond rfl (fun hb33 => ?_) (fun hb33 => ?_)
          ·
            replace h := if_t hb33 h
            obtain ⟨z34, hzz34, h⟩ := bind_some h
            obtain ⟨z35, hzz35, h⟩ := bind_some h
            refine WpC.drawP E.obj hmix [[(7, none)], [(24, some 0)], [(0, none)], [(1, none)], [(8, none)], [(26, some 2), (27, some 3), (28, some 4)], [(29, some 5)], [(25, some 1), (30, some 6)], [(7, none)], [(31, some 7), (32, some 8)]] [(0, none), (1, none), (2, none), (6, none), (7, none), (14, none), (15, none)] (by kernel_rfl) [7, 9] (by decide) [some (.ptr b8 0 4), some v23, some (.d (.sl ((a1).map encTree0) false)), some (.d (.sl ((a2).map (D.int .i64)) false)), some (.d (.int .i64 x24)), some (.d (encTree z34)), some (.d (.sl (([z34]).map encTree) true)), none, none, none] ?_
            refine ⟨[0, 1, 2, 3, 4, 5, 6], by kernel_rfl, ?_, _, _, rfl, rfl, .step ?_⟩
            ·
              refine .cons rfl rfl rfl (.step ?_) ?_
              ·
                refine wpO.val rfl (oper_fieldAddr rfl fo28_4 nz26 rfl) rfl ?_
                exact wpO.nil ⟨_, _, rfl, fun _ ht => by cases ht; exact ⟨rfl, .refl _⟩⟩
              refine .cons rfl rfl rfl (.step ?_) ?_
              ·
                refine wpO.val rfl (oper_load H21 (i := 0) rfl rfl (part_one ag26 rfl)) rfl ?_
                exact wpO.nil ⟨_, _, rfl, fun _ ht => by cases ht; exact ⟨rfl, .refl _⟩⟩
              refine .cons rfl rfl rfl (.step ?_) ?_
              ·
                refine wpO.val rfl (oper_move rfl) rfl ?_
                exact wpO.nil ⟨_, _, rfl, fun _ ht => by cases ht; exact ⟨rfl, .refl _⟩⟩
              refine .cons rfl rfl rfl (.step ?_) ?_
              ·
                refine wpO.val rfl (oper_move rfl) rfl ?_
                exact wpO.nil ⟨_, _, rfl, fun _ ht => by cases ht; exact ⟨rfl, .refl _⟩⟩
              refine .cons rfl rfl rfl (.step ?_) ?_
              ·
                refine wpO.val rfl (oper_move rfl) rfl ?_
                exact wpO.nil ⟨_, _, rfl, fun _ ht => by cases ht; exact ⟨rfl, .refl _⟩⟩
              refine .cons rfl rfl rfl (.step ?_) ?_
              ·
                refine wpO.ret rfl (oper_callF rfl rfl) (ih _ _ _ _ hzz34 _ _ (ArgsC.eq (ArgsC.eq (ArgsC.eq .nil)))) rfl ?_
                exact wpO.nil ⟨_, _, rfl, fun _ ht => by cases ht; exact ⟨rfl, .refl _⟩⟩
              refine .cons rfl rfl rfl (.step ?_) ?_
              ·
                refine wpO.val rfl (oper_buildSlice (vs := [(.d (encTree z34))]) (ds := [(encTree z34)]) rw26 el26 ag28 zo28 sz28 rfl (by decide) (.cons rfl (Tree.len _) .nil) rfl (by intro d hd; simp only [List.mem_cons, List.not_mem_nil, or_false] at hd; rcases hd with rfl <;> exact Tree.agg _) rfl) rfl ?_
                exact wpO.nil ⟨_, _, rfl, fun _ ht => by cases ht; exact ⟨rfl, .refl _⟩⟩
              exact .nil
            refine wpO.append (xs := (x22).map encTree) (ys := ([z34]).map encTree) (zs := (z35).map encTree) H21 rfl rfl rfl (i := 2) rfl rfl rw26 os26 el26 (app_bound hzz35) nb28 rfl (sizes_map (enc := encTree) (fun z => (Tree.len z).trans sz28.symm) _) (sizes_map (enc := encTree) (fun z => (Tree.len z).trans sz28.symm) _) zk28 rfl (app_eq hzz35) (fun v41 S42 H43 => ?_)
            refine wpO.nil ⟨_, _, _, rfl, (fun _ ht => by cases ht; rfl), [some (.ptr b8 0 4), some v23, some (.d (.sl ((a1).map encTree0) false)), some (.d (.sl ((a2).map (D.int .i64)) false)), some (.d (.int .i64 x24)), some (.d (encTree z34)), some (.d (.sl (([z34]).map encTree) true)), some v41, some (.ptr b8 0 4), none], (.old (.refl _) (.old (.refl _) (.old (.refl _) (.old (.refl _) (.old (.refl _) (.old (.refl _) (.old (.refl _) (.new (.new (.new .nil)))))))))), (fun _ ht => by cases ht; exact ⟨_, rfl, .refl _⟩), ?_⟩
            refine ⟨[8], by kernel_rfl, ?_, _, _, rfl, rfl, .step ?_⟩
            ·
              refine .cons rfl rfl rfl (.step ?_) ?_
              ·
                refine wpO.val rfl (oper_fieldAddr rfl fo28_4 nz26 rfl) rfl ?_
                exact wpO.nil ⟨_, _, rfl, fun _ ht => by cases ht; exact ⟨rfl, .refl _⟩⟩
              exact .nil
            refine wpO.store H43 (i := 0) rfl rfl rfl rfl (grow_toD (H43.at (i := 2) rfl)).2.2.2.2 rfl sz26 (grow_toD (H43.at (i := 2) rfl)).2.2.2.1 as26 rfl rfl rfl (fun S44 H45 => ?_)
            refine wpO.nil ⟨_, .any, _, rfl, (fun _ ht => by cases ht), [some (.ptr b8 0 4), some v23, some (.d (.sl ((a1).map encTree0) false)), some (.d (.sl ((a2).map (D.int .i64)) false)), some (.d (.int .i64 x24)), some (.d (encTree z34)), some (.d (.sl (([z34]).map encTree) true)), some v41, some (.ptr b8 0 4), some .any], (.old (.refl _) (.old (.refl _) (.old (.refl _) (.old (.refl _) (.old (.refl _) (.old (.refl _) (.old (.refl _) (.old (.refl _) (.old (.refl _) (.new .nil)))))))))), (fun _ ht => by cases ht), ?_⟩
            refine ⟨[], by kernel_rfl, ?_, _, rfl, ?_⟩
            ·
              exact .nil
            exact ⟨⟨z35, v41⟩, _, _, S44, .refl _ _, .refl _, (WeakE.cons rfl (.refl _) (WeakE.cons rfl (.refl _) (WeakE.cons rfl (.refl _) (WeakE.cons rfl (.refl _) (WeakE.cons rfl (.refl _) (WeakE.cons rfl (.refl _) (WeakE.cons rfl (.refl _) WeakE.nil))))))), H45.sel [0, 1, 2] (by decide) rfl, h⟩
          ·
            replace h := if_f hb33 h
            refine WpC.skip ?_
            exact ⟨⟨x22, v23⟩, _, _, S20, .refl _ _, .refl _, (WeakE.cons rfl (.refl _) (WeakE.cons rfl (.refl _) (WeakE.cons rfl (.refl _) (WeakE.cons rfl (.refl _) (WeakE.cons rfl (.refl _) (WeakE.cons rfl (.refl _) (WeakE.cons rfl (.refl _) WeakE.nil))))))), H21.sel [0, 1, 2] (by decide) rfl, h⟩
      ·
        replace h := if_f hb26 h
        refine WpC.exit ?_
        refine WpC.seq ?_
        refine WpC.region E.obj rfl ?_
        refine wpO.val rfl (oper_load H21 (i := 0) rfl rfl (part_agg ag28 sz28 rfl)) rfl ?_
        refine wpO.less (Less.agg' (d := encTree (Tree.mk z7.Tag z7.Key z7.Text z7.Attrs x22)) (CellsC.eq rfl (CellsC.eq rfl (CellsC.eq rfl (CellsC.eq rfl (CellsC.grow H21 (i := 2) rfl .nil))))) ((Tree.eq _).trans rfl)) ?_
        refine wpO.store H21 (i := 1) rfl rfl rfl rfl (Tree.cellsA _) rfl sz28 rfl as28 rfl rfl rfl (fun S46 H47 => ?_)
        refine wpO.nil ?_
        have hr := Option.some.inj h
        subst hr
        exact WpC.ret ⟨_, resultsE_cell H47 (i := 1) rfl rfl rfl (part_agg ag28 sz28 rfl), rfl, end1 (ArgsC.less_agg (d := encTree (Tree.mk z7.Tag z7.Key z7.Text z7.Attrs x22)) (CellsC.eq rfl (CellsC.eq rfl (CellsC.eq rfl (CellsC.eq rfl (CellsC.eq rfl .nil))))) ((Tree.eq _).trans rfl))⟩
set_option maxRecDepth 20000 in
set_option maxHeartbeats 4000000 in
theorem porticokeep_Wood_Tree_ok (n : Nat) (a1 : K_Wood) (r : Tree) (h : porticokeep_Wood_Tree n a1 = some r) : SpecC R cfg.P 6 [(encK_Wood a1)] (.d (encTree r)) := by
  unfold porticokeep_Wood_Tree at h
  refine SpecC.of_wp E.obj.toObjOk (C := cfg) Tryd.func6 rfl nm6 rfl ?_
  have H0 : Has pureSt pureSt [] := Has.pure
  refine WpC.seq ?_
  refine WpC.region E.obj rfl ?_
  refine wpO.box H0 rfl rfl rfl (K_Wood.cellsA _) rfl (fun b2 S3 H4 => ?_)
  refine wpO.alloc H4 rfl ob28 zo28 rfl rfl (fun b5 S6 H7 => ?_)
  refine wpO.nil ?_
  refine WpC.seq ?_
  refine WpC.region E.obj rfl ?_
  refine wpO.val rfl (oper_buildSlice (vs := [(.d (.str [97])), (.d (.str [98])), (.d (.str [108, 105])), (.d (.str [111, 117, 116, 108, 101, 116]))]) (ds := [(.str [97]), (.str [98]), (.str [108, 105]), (.str [111, 117, 116, 108, 101, 116])]) rw44 el44 ag9 zo9 sz9 rfl (by decide) (.cons rfl rfl (.cons rfl rfl (.cons rfl rfl (.cons rfl rfl .nil)))) rfl (by intro d hd; simp only [List.mem_cons, List.not_mem_nil, or_false] at hd; rcases hd with rfl | rfl | rfl | rfl <;> rfl) rfl) rfl ?_
  refine wpO.val rfl (oper_assign rfl) rfl ?_
  refine wpO.nil ?_
  refine WpC.seq ?_
  refine WpC.region E.obj rfl ?_
  obtain ⟨z8, hzz8, h⟩ := bind_some h
  refine wpO.ret rfl (oper_callF rfl rfl) (porticokeep_Words_ok E _  _ hzz8 _ _ .nil) rfl ?_
  refine wpO.val rfl (oper_assign rfl) rfl ?_
  refine wpO.nil ?_
  refine WpC.seq ?_
  refine WpC.region E.obj rfl ?_
  refine wpO.val rfl (oper_build (cs := [(.d (.str [100, 105, 118])), (.d (.str [])), (.d (.str [])), (.d .nils), (.d .nils)]) zo28 rfl (place_struct28) (fill1 rfl rfl rfl rfl rfl)) rfl ?_
  refine wpO.less (Less.agg' (d := encTree0 (Tree0.mk [100, 105, 118] [] [] [])) (CellsC.eq rfl (CellsC.eq rfl (CellsC.eq rfl (CellsC.consW rfl (.nils false) rfl rfl (CellsC.eq rfl .nil))))) ((Tree0.eq _).trans rfl)) ?_
  refine wpO.val rfl (oper_buildSlice (vs := [(.d (encTree0 (Tree0.mk [100, 105, 118] [] [] [])))]) (ds := [(encTree0 (Tree0.mk [100, 105, 118] [] [] []))]) rw26 el26 ag28 zo28 sz28 rfl (by decide) (.cons rfl (Tree0.len _) .nil) rfl (by intro d hd; simp only [List.mem_cons, List.not_mem_nil, or_false] at hd; rcases hd with rfl <;> exact Tree0.agg _) rfl) rfl ?_
  refine wpO.val rfl (oper_assign rfl) rfl ?_
  refine wpO.nil ?_
  refine WpC.seq ?_
  refine WpC.region E.obj rfl ?_
  refine wpO.val rfl (oper_buildSlice (vs := [(.d (.int .i64 (-1)))]) (ds := [(.int .i64 (-1))]) rw22 el22 ag3 zo3 sz3 rfl (by decide) (.cons rfl rfl .nil) rfl (by intro d hd; simp only [List.mem_cons, List.not_mem_nil, or_false] at hd; rcases hd with rfl <;> rfl) rfl) rfl ?_
  refine wpO.val rfl (oper_assign rfl) rfl ?_
  refine wpO.nil ?_
  refine WpC.seq ?_
  refine WpC.seq ?_
  refine WpC.region E.obj rfl ?_
  refine wpO.val rfl (oper_assign rfl) rfl ?_
  refine wpO.nil ?_
  refine WpC.block ?_
  have H93 := H7.tightG (([(Tree0.mk [100, 105, 118] [] [] [])]).map encTree0)
  have H94 := H93.tightG (([(-1)]).map (D.int .i64))
  refine WpL.start (B := pureSt) (α := (List Tree0) × AV × (List Int) × AV × Int) (fun k a => porticokeep_Wood_Tree_l25 n a1 z8 k a.1 a.2.2.1 a.2.2.2.2 = some r) (fun a => [(1, (.ptr b2 0 0)), (2, (.ptr b5 0 0)), (3, (.d (.sl (([[97], [98], [108, 105], [111, 117, 116, 108, 101, 116]]).map D.str) true))), (4, (.d (.sl ((z8).map D.str) false))), (5, a.2.1), (6, a.2.2.2.1), (7, (.d (.int .i64 a.2.2.2.2)))]) (fun a => [.box b5 [(.d (.str [])), (.d (.str [])), (.d (.str [])), (.d .nils), (.d .nils)], .box b2 [(.d (.sl ((a1.Under).map (D.int .i64)) false)), (.d (.sl ((a1.Kinds).map (D.int .i64)) false)), (.d (.sl ((a1.Keys).map (D.int .i64)) false)), (.d (.sl ((a1.Texts).map (D.int .i64)) false))], .grow a.2.1 ((a.1).map encTree0), .grow a.2.2.2.1 ((a.2.2.1).map (D.int .i64))]) ?_ ?_ n ⟨⟨[(Tree0.mk [100, 105, 118] [] [] [])], (.d (.sl (([(Tree0.mk [100, 105, 118] [] [] [])]).map encTree0) true)), [(-1)], (.d (.sl (([(-1)]).map (D.int .i64)) true)), 0⟩, _, _, S6, .refl _ _, .refl _, (WeakE.cons rfl (.refl _) (WeakE.cons rfl (.refl _) (WeakE.cons rfl (.refl _) (WeakE.cons rfl (.refl _) (WeakE.cons rfl (.refl _) (WeakE.cons rfl (.refl _) (WeakE.cons rfl (.refl _) WeakE.nil))))))), H94.sel [2, 3, 1, 0] (by decide) rfl, h⟩
  · intro a h; simp [porticokeep_Wood_Tree_l25] at h
  ·
    intro k25 a S18 H19 h
    obtain ⟨x20, v21, x22, v23, x24⟩ := a
    replace h : porticokeep_Wood_Tree_l25 n a1 z8 (k25 + 1) x20 x22 x24 = some r := h
    replace H19 : Has pureSt S18 [.box b5 [(.d (.str [])), (.d (.str [])), (.d (.str [])), (.d .nils), (.d .nils)], .box b2 [(.d (.sl ((a1.Under).map (D.int .i64)) false)), (.d (.sl ((a1.Kinds).map (D.int .i64)) false)), (.d (.sl ((a1.Keys).map (D.int .i64)) false)), (.d (.sl ((a1.Texts).map (D.int .i64)) false))], .grow v21 ((x20).map encTree0), .grow v23 ((x22).map (D.int .i64))] := H19
    unfold porticokeep_Wood_Tree_l25 at h
    refine WpC.seq ?_
    refine WpC.seq ?_
    refine WpC.region E.obj rfl ?_
    refine wpO.val rfl (oper_move rfl) rfl ?_
    refine wpO.val rfl (oper_fieldAddr rfl fo24_0 nz22 rfl) rfl ?_
    refine wpO.val rfl (oper_load H19 (i := 1) rfl rfl (part_one ag22 rfl)) rfl ?_
    refine wpO.val rfl (oper_lenL rfl es22) rfl ?_
    refine wpO.val rfl (oper_bin rfl rfl binD_lss) rfl ?_
    refine wpO.val rfl (oper_move rfl) rfl ?_
    refine wpO.groupV 3 25 (.d (.bool ((decide (x24 < ((a1.Under).length : Int))) && (decide (x24 < 12))))) ?_ ?_
    ·
      rcases Bool.eq_false_or_eq_true ((decide (x24 < ((a1.Under).length : Int)))) with hB26 | hB26
      ·
        refine wpO.bool hB26 ?_
        refine wpO.val rfl (oper_move rfl) rfl ?_
        refine wpO.val rfl (oper_bin rfl rfl binD_lss) rfl ?_
        refine wpO.val rfl (oper_pick (b := true) rfl rfl) rfl ?_
        exact wpO.nil ⟨_, rfl, (WeakE.put (WeakE.push rfl (WeakE.push rfl (WeakE.put (.refl _) (Less.eq (by rw [hB26]))))) (Less.eq (by rw [hB26]; rw [Bool.true_and])))⟩
      ·
        refine wpO.bool hB26 ?_
        refine wpO.no rfl rfl ?_
        refine wpO.no rfl rfl ?_
        refine wpO.val rfl (oper_pick (b := false) rfl rfl) rfl ?_
        exact wpO.nil ⟨_, rfl, (WeakE.put (WeakE.push rfl (WeakE.push rfl (WeakE.put (.refl _) (Less.eq (by rw [hB26]))))) (Less.eq (by rw [hB26]; rw [Bool.false_and])))⟩
    ·
      refine wpO.nil ?_
      refine WpC.cond rfl (fun hb27 => ?_) (fun hb27 => ?_)
      ·
        replace h := if_t hb27 h
        refine WpC.skip ?_
        refine WpC.seq ?_
        refine WpC.block ?_
        refine WpC.seq ?_
        refine WpC.region E.obj rfl ?_
        refine wpO.val rfl (oper_fieldAddr rfl fo24_0 nz22 rfl) rfl ?_
        refine wpO.val rfl (oper_load H19 (i := 1) rfl rfl (part_one ag22 rfl)) rfl ?_
        refine wpO.val rfl (oper_move rfl) rfl ?_
        obtain ⟨z28, hzz28, h⟩ := bind_some h
        refine wpO.val rfl (oper_idx rfl rfl (idxAddr (enc := (D.int .i64)) hzz28 el22 as3 (((fun _ => rfl) _).trans sz3.symm))) rfl ?_
        refine wpO.val rfl (oper_loadE rfl (partD_one ag3 rfl)) rfl ?_
        refine wpO.val rfl (oper_move rfl) rfl ?_
        refine wpO.val rfl (oper_lenG H19 (i := 2) rfl rfl es26) rfl ?_
        refine wpO.val rfl (oper_bin rfl rfl binD_sub) rfl ?_
        obtain ⟨z29, hzz29, h⟩ := bind_some h
        refine wpO.ret rfl (oper_callF rfl rfl) (porticobook_Within_ok E _ _ _ _ _ hzz29 _ _ (ArgsC.eq (ArgsC.eq (ArgsC.eq .nil)))) rfl ?_
        refine wpO.val rfl (oper_assign rfl) rfl ?_
        refine wpO.nil ?_
        refine WpC.join (B := pureSt) (α := Int) (fun a => porticokeep_Wood_Tree_j33 n a1 z8 x20 x22 x24 (porticokeep_Wood_Tree_l25 n a1 z8 k25) a = some r) (fun a => [(1, (.ptr b2 0 0)), (2, (.ptr b5 0 0)), (3, (.d (.sl (([[97], [98], [108, 105], [111, 117, 116, 108, 101, 116]]).map D.str) true))), (4, (.d (.sl ((z8).map D.str) false))), (5, v21), (6, v23), (7, (.d (.int .i64 x24))), (8, (.d (.int .i64 a)))]) (fun a => [.box b5 [(.d (.str [])), (.d (.str [])), (.d (.str [])), (.d .nils), (.d .nils)], .box b2 [(.d (.sl ((a1.Under).map (D.int .i64)) false)), (.d (.sl ((a1.Kinds).map (D.int .i64)) false)), (.d (.sl ((a1.Keys).map (D.int .i64)) false)), (.d (.sl ((a1.Texts).map (D.int .i64)) false))], .grow v21 ((x20).map encTree0), .grow v23 ((x22).map (D.int .i64))]) ?_ ?_
        ·
          intro x32 S30 H31 h
          replace h : porticokeep_Wood_Tree_j33 n a1 z8 x20 x22 x24 (porticokeep_Wood_Tree_l25 n a1 z8 k25) x32 = some r := h
          replace H31 : Has pureSt S30 [.box b5 [(.d (.str [])), (.d (.str [])), (.d (.str [])), (.d .nils), (.d .nils)], .box b2 [(.d (.sl ((a1.Under).map (D.int .i64)) false)), (.d (.sl ((a1.Kinds).map (D.int .i64)) false)), (.d (.sl ((a1.Keys).map (D.int .i64)) false)), (.d (.sl ((a1.Texts).map (D.int .i64)) false))], .grow v21 ((x20).map encTree0), .grow v23 ((x22).map (D.int .i64))] := H31
          unfold porticokeep_Wood_Tree_j33 at h
          refine WpC.seq ?_
          refine WpC.region E.obj rfl ?_
          refine wpO.val rfl (oper_move rfl) rfl ?_
          refine wpO.val rfl (oper_fieldAddr rfl fo24_3 nz22 rfl) rfl ?_
          refine wpO.val rfl (oper_load H31 (i := 1) rfl rfl (part_one ag22 rfl)) rfl ?_
          refine wpO.val rfl (oper_move rfl) rfl ?_
          obtain ⟨z34, hzz34, h⟩ := bind_some h
          refine wpO.ret rfl (oper_callF rfl rfl) (porticokeep_pick_ok E _ _ _ _ hzz34 _ _ (ArgsC.eq (ArgsC.eq .nil))) rfl ?_
          refine wpO.val rfl (oper_move rfl) rfl ?_
          refine wpO.val rfl (oper_lenL rfl es44) rfl ?_
          refine wpO.val rfl (oper_bin rfl rfl binD_sub) rfl ?_
          obtain ⟨z35, hzz35, h⟩ := bind_some h
          refine wpO.ret rfl (oper_callF rfl rfl) (porticobook_Within_ok E _ _ _ _ _ hzz35 _ _ (ArgsC.eq (ArgsC.eq (ArgsC.eq .nil)))) rfl ?_
          obtain ⟨z36, hzz36, h⟩ := bind_some h
          refine wpO.val rfl (oper_idx rfl rfl (idxAddr (enc := D.str) hzz36 el44 as9 (((fun _ => rfl) _).trans sz9.symm))) rfl ?_
          refine wpO.val rfl (oper_loadE rfl (partD_one ag9 rfl)) rfl ?_
          refine wpO.val rfl (oper_build (cs := [(.d (.str [])), (.d (.str [])), (.d (.str z36)), (.d .nils), (.d .nils)]) zo28 rfl (place_struct28) (fill1 rfl rfl rfl rfl rfl)) rfl ?_
          refine wpO.less (Less.agg' (d := encTree0 (Tree0.mk [] [] z36 [])) (CellsC.eq rfl (CellsC.eq rfl (CellsC.eq rfl (CellsC.consW rfl (.nils false) rfl rfl (CellsC.eq rfl .nil))))) ((Tree0.eq _).trans rfl)) ?_
          refine wpO.alloc H31 rfl ob28 zo28 rfl rfl (fun b37 S38 H39 => ?_)
          refine wpO.store H39 (i := 0) rfl rfl rfl rfl (Tree0.cellsA _) rfl sz28 rfl as28 rfl rfl rfl (fun S40 H41 => ?_)
          refine wpO.nil ?_
          refine WpC.join (B := pureSt) (α := Str × Str × Str × (List Attr)) (fun a => porticokeep_Wood_Tree_j48 n x20 x22 x24 (porticokeep_Wood_Tree_l25 n a1 z8 k25) x32 a.1 a.2.1 a.2.2.1 a.2.2.2 = some r) (fun a => [(1, (.ptr b2 0 0)), (2, (.ptr b5 0 0)), (3, (.d (.sl (([[97], [98], [108, 105], [111, 117, 116, 108, 101, 116]]).map D.str) true))), (4, (.d (.sl ((z8).map D.str) false))), (5, v21), (6, v23), (7, (.d (.int .i64 x24))), (8, (.d (.int .i64 x32))), (9, (.ptr b37 0 0))]) (fun a => [.box b37 [(.d (.str a.1)), (.d (.str a.2.1)), (.d (.str a.2.2.1)), (.d (.sl ((a.2.2.2).map encAttr) false)), (.d .nils)], .box b5 [(.d (.str [])), (.d (.str [])), (.d (.str [])), (.d .nils), (.d .nils)], .box b2 [(.d (.sl ((a1.Under).map (D.int .i64)) false)), (.d (.sl ((a1.Kinds).map (D.int .i64)) false)), (.d (.sl ((a1.Keys).map (D.int .i64)) false)), (.d (.sl ((a1.Texts).map (D.int .i64)) false))], .grow v21 ((x20).map encTree0), .grow v23 ((x22).map (D.int .i64))]) ?_ ?_
          ·
            intro a S42 H43 h
            obtain ⟨x44, x45, x46, x47⟩ := a
            replace h : porticokeep_Wood_Tree_j48 n x20 x22 x24 (porticokeep_Wood_Tree_l25 n a1 z8 k25) x32 x44 x45 x46 x47 = some r := h
            replace H43 : Has pureSt S42 [.box b37 [(.d (.str x44)), (.d (.str x45)), (.d (.str x46)), (.d (.sl ((x47).map encAttr) false)), (.d .nils)], .box b5 [(.d (.str [])), (.d (.str [])), (.d (.str [])), (.d .nils), (.d .nils)], .box b2 [(.d (.sl ((a1.Under).map (D.int .i64)) false)), (.d (.sl ((a1.Kinds).map (D.int .i64)) false)), (.d (.sl ((a1.Keys).map (D.int .i64)) false)), (.d (.sl ((a1.Texts).map (D.int .i64)) false))], .grow v21 ((x20).map encTree0), .grow v23 ((x22).map (D.int .i64))] := H43
            unfold porticokeep_Wood_Tree_j48 at h
            refine WpC.join (B := pureSt) (α := Int) (fun a => porticokeep_Wood_Tree_j52 x20 x22 x24 (porticokeep_Wood_Tree_l25 n a1 z8 k25) x44 x45 x46 x47 a = some r) (fun a => [(1, (.ptr b2 0 0)), (2, (.ptr b5 0 0)), (3, (.d (.sl (([[97], [98], [108, 105], [111, 117, 116, 108, 101, 116]]).map D.str) true))), (4, (.d (.sl ((z8).map D.str) false))), (5, v21), (6, v23), (7, (.d (.int .i64 x24))), (8, (.d (.int .i64 a))), (9, (.ptr b37 0 0))]) (fun a => [.box b37 [(.d (.str x44)), (.d (.str x45)), (.d (.str x46)), (.d (.sl ((x47).map encAttr) false)), (.d .nils)], .box b5 [(.d (.str [])), (.d (.str [])), (.d (.str [])), (.d .nils), (.d .nils)], .box b2 [(.d (.sl ((a1.Under).map (D.int .i64)) false)), (.d (.sl ((a1.Kinds).map (D.int .i64)) false)), (.d (.sl ((a1.Keys).map (D.int .i64)) false)), (.d (.sl ((a1.Texts).map (D.int .i64)) false))], .grow v21 ((x20).map encTree0), .grow v23 ((x22).map (D.int .i64))]) ?_ ?_
            ·
              intro x51 S49 H50 h
              replace h : porticokeep_Wood_Tree_j52 x20 x22 x24 (porticokeep_Wood_Tree_l25 n a1 z8 k25) x44 x45 x46 x47 x51 = some r := h
              replace H50 : Has pureSt S49 [.box b37 [(.d (.str x44)), (.d (.str x45)), (.d (.str x46)), (.d (.sl ((x47).map encAttr) false)), (.d .nils)], .box b5 [(.d (.str [])), (.d (.str [])), (.d (.str [])), (.d .nils), (.d .nils)], .box b2 [(.d (.sl ((a1.Under).map (D.int .i64)) false)), (.d (.sl ((a1.Kinds).map (D.int .i64)) false)), (.d (.sl ((a1.Keys).map (D.int .i64)) false)), (.d (.sl ((a1.Texts).map (D.int .i64)) false))], .grow v21 ((x20).map encTree0), .grow v23 ((x22).map (D.int .i64))] := H50
              unfold porticokeep_Wood_Tree_j52 at h
              refine WpC.region E.obj rfl ?_
              refine wpO.val rfl (oper_move rfl) rfl ?_
              refine wpO.val rfl (oper_load H50 (i := 0) rfl rfl (part_agg ag28 sz28 rfl)) rfl ?_
              refine wpO.less (Less.agg' (d := encTree0 (Tree0.mk x44 x45 x46 x47)) (CellsC.eq rfl (CellsC.eq rfl (CellsC.eq rfl (CellsC.eq rfl (CellsC.eq rfl .nil))))) ((Tree0.eq _).trans rfl)) ?_
              refine wpO.val rfl (oper_buildSlice (vs := [(.d (encTree0 (Tree0.mk x44 x45 x46 x47)))]) (ds := [(encTree0 (Tree0.mk x44 x45 x46 x47))]) rw26 el26 ag28 zo28 sz28 rfl (by decide) (.cons rfl (Tree0.len _) .nil) rfl (by intro d hd; simp only [List.mem_cons, List.not_mem_nil, or_false] at hd; rcases hd with rfl <;> exact Tree0.agg _) rfl) rfl ?_
              obtain ⟨z53, hzz53, h⟩ := bind_some h
              refine wpO.append (xs := (x20).map encTree0) (ys := ([(Tree0.mk x44 x45 x46 x47)]).map encTree0) (zs := (z53).map encTree0) H50 rfl rfl rfl (i := 3) rfl rfl rw26 os26 el26 (app_bound hzz53) nb28 rfl (sizes_map (enc := encTree0) (fun z => (Tree0.len z).trans sz28.symm) _) (sizes_map (enc := encTree0) (fun z => (Tree0.len z).trans sz28.symm) _) zk28 rfl (app_eq hzz53) (fun v54 S55 H56 => ?_)
              refine wpO.val rfl (oper_move rfl) rfl ?_
              refine wpO.val rfl (oper_move rfl) rfl ?_
              refine wpO.val rfl (oper_buildSlice (vs := [(.d (.int .i64 x51))]) (ds := [(.int .i64 x51)]) rw22 el22 ag3 zo3 sz3 rfl (by decide) (.cons rfl rfl .nil) rfl (by intro d hd; simp only [List.mem_cons, List.not_mem_nil, or_false] at hd; rcases hd with rfl <;> rfl) rfl) rfl ?_
              obtain ⟨z57, hzz57, h⟩ := bind_some h
              refine wpO.append (xs := (x22).map (D.int .i64)) (ys := ([x51]).map (D.int .i64)) (zs := (z57).map (D.int .i64)) H56 rfl rfl rfl (i := 4) rfl rfl rw22 os22 el22 (app_bound hzz57) nb3 rfl (sizes_map (enc := (D.int .i64)) (fun _ => sz3.symm) _) (sizes_map (enc := (D.int .i64)) (fun _ => sz3.symm) _) zk3 rfl (app_eq hzz57) (fun v58 S59 H60 => ?_)
              refine wpO.val rfl (oper_assign rfl) rfl ?_
              refine wpO.val rfl (oper_assign rfl) rfl ?_
              refine wpO.nil ?_
              refine WpC.region E.obj rfl ?_
              refine wpO.val rfl (oper_move rfl) rfl ?_
              refine wpO.val rfl (oper_bin rfl rfl binD_add) rfl ?_
              refine wpO.val rfl (oper_assign rfl) rfl ?_
              refine wpO.nil ?_
              exact ⟨⟨z53, v54, z57, v58, (IntKind.wrap .i64 (x24 + 1))⟩, _, _, S59, .refl _ _, .refl _, (WeakE.cons rfl (.refl _) (WeakE.cons rfl (.refl _) (WeakE.cons rfl (.refl _) (WeakE.cons rfl (.refl _) (WeakE.cons rfl (.refl _) (WeakE.cons rfl (.refl _) (WeakE.cons rfl (.refl _) WeakE.nil))))))), H60.sel [1, 2, 3, 4] (by decide) rfl, h⟩
            ·
              refine WpC.seq ?_
              refine WpC.region E.obj rfl ?_
              refine wpO.val rfl (oper_move rfl) rfl ?_
              refine wpO.val rfl (oper_move rfl) rfl ?_
              obtain ⟨z61, hzz61, h⟩ := bind_some h
              refine wpO.ret rfl (oper_callF rfl rfl) (porticokeep_deep_ok E _ _ _ _ hzz61 _ _ (ArgsC.grow H43 (i := 4) rfl (ArgsC.eq .nil))) rfl ?_
              refine wpO.val rfl (oper_bin rfl rfl binD_gtr) rfl ?_
              refine wpO.nil ?_
              refine WpC.cond rfl (fun hb62 => ?_) (fun hb62 => ?_)
              ·
                replace h := if_t hb62 h
                refine WpC.region E.obj rfl ?_
                refine wpO.val rfl (oper_assign rfl) rfl ?_
                refine wpO.nil ?_
                exact ⟨0, _, _, S42, .refl _ _, .refl _, (WeakE.cons rfl (.refl _) (WeakE.cons rfl (.refl _) (WeakE.cons rfl (.refl _) (WeakE.cons rfl (.refl _) (WeakE.cons rfl (.refl _) (WeakE.cons rfl (.refl _) (WeakE.cons rfl (.refl _) (WeakE.cons rfl (.refl _) (WeakE.cons rfl (.refl _) WeakE.nil))))))))), H43.sel [0, 1, 2, 3, 4] (by decide) rfl, h⟩
              ·
                replace h := if_f hb62 h
                refine WpC.skip ?_
                exact ⟨x32, _, _, S42, .refl _ _, .refl _, (WeakE.cons rfl (.refl _) (WeakE.cons rfl (.refl _) (WeakE.cons rfl (.refl _) (WeakE.cons rfl (.refl _) (WeakE.cons rfl (.refl _) (WeakE.cons rfl (.refl _) (WeakE.cons rfl (.refl _) (WeakE.cons rfl (.refl _) (WeakE.cons rfl (.refl _) WeakE.nil))))))))), H43.sel [0, 1, 2, 3, 4] (by decide) rfl, h⟩
          ·
            refine WpC.seq ?_
            refine WpC.region E.obj rfl ?_
            refine wpO.val rfl (oper_fieldAddr rfl fo24_1 nz22 rfl) rfl ?_
            refine wpO.val rfl (oper_load H41 (i := 2) rfl rfl (part_one ag22 rfl)) rfl ?_
            refine wpO.val rfl (oper_move rfl) rfl ?_
            obtain ⟨z63, hzz63, h⟩ := bind_some h
            refine wpO.ret rfl (oper_callF rfl rfl) (porticokeep_pick_ok E _ _ _ _ hzz63 _ _ (ArgsC.eq (ArgsC.eq .nil))) rfl ?_
            obtain ⟨z64, hzz64, h⟩ := bind_some h
            refine wpO.ret rfl (oper_callF rfl rfl) (porticobook_Within_ok E _ _ _ _ _ hzz64 _ _ (ArgsC.eq (ArgsC.eq (ArgsC.eq .nil)))) rfl ?_
            refine wpO.val rfl (oper_assign rfl) rfl ?_
            refine wpO.nil ?_
            refine WpC.seq ?_
            refine WpC.region E.obj rfl ?_
            refine wpO.val rfl (oper_move rfl) rfl ?_
            refine wpO.val rfl (oper_bin rfl rfl binD_lss) rfl ?_
            refine wpO.nil ?_
            refine WpC.cond rfl (fun hb65 => ?_) (fun hb65 => ?_)
            ·
              replace h := if_t hb65 h
              refine WpC.seq ?_
              refine WpC.region E.obj rfl ?_
              refine wpO.val rfl (oper_move rfl) rfl ?_
              refine wpO.val rfl (oper_move rfl) rfl ?_
              obtain ⟨z66, hzz66, h⟩ := bind_some h
              refine wpO.val rfl (oper_idx rfl rfl (idxAddr (enc := D.str) hzz66 el44 as9 (((fun _ => rfl) _).trans sz9.symm))) rfl ?_
              refine wpO.val rfl (oper_loadE rfl (partD_one ag9 rfl)) rfl ?_
              refine wpO.val rfl (oper_build (cs := [(.d (.str z66)), (.d (.str [])), (.d (.str [])), (.d .nils), (.d .nils)]) zo28 rfl (place_struct28) (fill1 rfl rfl rfl rfl rfl)) rfl ?_
              refine wpO.less (Less.agg' (d := encTree0 (Tree0.mk z66 [] [] [])) (CellsC.eq rfl (CellsC.eq rfl (CellsC.eq rfl (CellsC.consW rfl (.nils false) rfl rfl (CellsC.eq rfl .nil))))) ((Tree0.eq _).trans rfl)) ?_
              refine wpO.store H41 (i := 0) rfl rfl rfl rfl (Tree0.cellsA _) rfl sz28 rfl as28 rfl rfl rfl (fun S67 H68 => ?_)
              refine wpO.nil ?_
              refine WpC.join (B := pureSt) (α := Str) (fun a => porticokeep_Wood_Tree_j72 n a1 z8 x20 x22 x24 (porticokeep_Wood_Tree_l25 n a1 z8 k25) x32 z66 a = some r) (fun a => [(1, (.ptr b2 0 0)), (2, (.ptr b5 0 0)), (3, (.d (.sl (([[97], [98], [108, 105], [111, 117, 116, 108, 101, 116]]).map D.str) true))), (4, (.d (.sl ((z8).map D.str) false))), (5, v21), (6, v23), (7, (.d (.int .i64 x24))), (8, (.d (.int .i64 x32))), (9, (.ptr b37 0 0))]) (fun a => [.box b37 [(.d (.str (Tree0.mk z66 [] [] []).Tag)), (.d (.str a)), (.d (.str (Tree0.mk z66 [] [] []).Text)), (.d (.sl (((Tree0.mk z66 [] [] []).Attrs).map encAttr) false)), (.d .nils)], .box b5 [(.d (.str [])), (.d (.str [])), (.d (.str [])), (.d .nils), (.d .nils)], .box b2 [(.d (.sl ((a1.Under).map (D.int .i64)) false)), (.d (.sl ((a1.Kinds).map (D.int .i64)) false)), (.d (.sl ((a1.Keys).map (D.int .i64)) false)), (.d (.sl ((a1.Texts).map (D.int .i64)) false))], .grow v21 ((x20).map encTree0), .grow v23 ((x22).map (D.int .i64))]) ?_ ?_
              ·
                intro x71 S69 H70 h
                replace h : porticokeep_Wood_Tree_j72 n a1 z8 x20 x22 x24 (porticokeep_Wood_Tree_l25 n a1 z8 k25) x32 z66 x71 = some r := h
                replace H70 : Has pureSt S69 [.box b37 [(.d (.str (Tree0.mk z66 [] [] []).Tag)), (.d (.str x71)), (.d (.str (Tree0.mk z66 [] [] []).Text)), (.d (.sl (((Tree0.mk z66 [] [] []).Attrs).map encAttr) false)), (.d .nils)], .box b5 [(.d (.str [])), (.d (.str [])), (.d (.str [])), (.d .nils), (.d .nils)], .box b2 [(.d (.sl ((a1.Under).map (D.int .i64)) false)), (.d (.sl ((a1.Kinds).map (D.int .i64)) false)), (.d (.sl ((a1.Keys).map (D.int .i64)) false)), (.d (.sl ((a1.Texts).map (D.int .i64)) false))], .grow v21 ((x20).map encTree0), .grow v23 ((x22).map (D.int .i64))] := H70
                unfold porticokeep_Wood_Tree_j72 at h
                refine WpC.seq ?_
                refine WpC.region E.obj rfl ?_
                refine wpO.val rfl (oper_fieldAddr rfl fo24_3 nz22 rfl) rfl ?_
                refine wpO.val rfl (oper_load H70 (i := 2) rfl rfl (part_one ag22 rfl)) rfl ?_
                refine wpO.val rfl (oper_move rfl) rfl ?_
                obtain ⟨z73, hzz73, h⟩ := bind_some h
                refine wpO.ret rfl (oper_callF rfl rfl) (porticokeep_pick_ok E _ _ _ _ hzz73 _ _ (ArgsC.eq (ArgsC.eq .nil))) rfl ?_
                refine wpO.val rfl (oper_bin rfl rfl binD_and) rfl ?_
                refine wpO.val rfl (oper_bin rfl rfl binD_eql) rfl ?_
                refine wpO.nil ?_
                refine WpC.cond rfl (fun hb74 => ?_) (fun hb74 => ?_)
                ·
                  replace h := if_t hb74 h
                  refine WpC.region E.obj rfl ?_
                  refine wpO.val rfl (oper_move rfl) rfl ?_
                  refine wpO.val rfl (oper_fieldAddr rfl fo24_3 nz22 rfl) rfl ?_
                  refine wpO.val rfl (oper_load H70 (i := 2) rfl rfl (part_one ag22 rfl)) rfl ?_
                  refine wpO.val rfl (oper_move rfl) rfl ?_
                  refine wpO.val rfl (oper_bin rfl rfl binD_add) rfl ?_
                  obtain ⟨z75, hzz75, h⟩ := bind_some h
                  refine wpO.ret rfl (oper_callF rfl rfl) (porticokeep_pick_ok E _ _ _ _ hzz75 _ _ (ArgsC.eq (ArgsC.eq .nil))) rfl ?_
                  refine wpO.val rfl (oper_move rfl) rfl ?_
                  refine wpO.val rfl (oper_lenL rfl es44) rfl ?_
                  refine wpO.val rfl (oper_bin rfl rfl binD_sub) rfl ?_
                  obtain ⟨z76, hzz76, h⟩ := bind_some h
                  refine wpO.ret rfl (oper_callF rfl rfl) (porticobook_Within_ok E _ _ _ _ _ hzz76 _ _ (ArgsC.eq (ArgsC.eq (ArgsC.eq .nil)))) rfl ?_
                  obtain ⟨z77, hzz77, h⟩ := bind_some h
                  refine wpO.val rfl (oper_idx rfl rfl (idxAddr (enc := D.str) hzz77 el44 as9 (((fun _ => rfl) _).trans sz9.symm))) rfl ?_
                  refine wpO.val rfl (oper_loadE rfl (partD_one ag9 rfl)) rfl ?_
                  refine wpO.val rfl (oper_build (cs := [(.d (.str [120])), (.d (.str z77))]) zo36 rfl (place_struct36) (fill1 rfl rfl rfl rfl (fill1 rfl rfl rfl rfl rfl))) rfl ?_
                  refine wpO.less (Less.agg' (d := encAttr (Attr.mk [120] z77)) (CellsC.eq rfl (CellsC.eq rfl .nil)) ((Attr.eq _).trans rfl)) ?_
                  refine wpO.val rfl (oper_buildSlice (vs := [(.d (encAttr (Attr.mk [120] z77)))]) (ds := [(encAttr (Attr.mk [120] z77))]) rw25 el25 ag36 zo36 sz36 rfl (by decide) (.cons rfl (Attr.len _) .nil) rfl (by intro d hd; simp only [List.mem_cons, List.not_mem_nil, or_false] at hd; rcases hd with rfl <;> exact Attr.agg _) rfl) rfl ?_
                  refine wpO.val rfl (oper_fieldAddr rfl fo28_3 nz25 rfl) rfl ?_
                  refine wpO.store H70 (i := 0) rfl rfl rfl rfl rfl rfl sz25 rfl as25 rfl rfl rfl (fun S78 H79 => ?_)
                  refine wpO.nil ?_
                  obtain ⟨S80, hw81, H82⟩ := H79.weakBox (i := 0) (cs' := [(.d (.str (Tree0.mk z66 [] [] []).Tag)), (.d (.str x71)), (.d (.str (Tree0.mk z66 [] [] []).Text)), (.d (.sl (([(Attr.mk [120] z77)]).map encAttr) false)), (.d .nils)]) rfl (.cons (.refl _) (.cons (.refl _) (.cons (.refl _) (.cons slL' (.cons (.refl _) .nil)))))
                  exact ⟨⟨(Tree0.mk z66 [] [] []).Tag, x71, (Tree0.mk z66 [] [] []).Text, [(Attr.mk [120] z77)]⟩, _, _, S80, .refl _ _, hw81, (WeakE.cons rfl (.refl _) (WeakE.cons rfl (.refl _) (WeakE.cons rfl (.refl _) (WeakE.cons rfl (.refl _) (WeakE.cons rfl (.refl _) (WeakE.cons rfl (.refl _) (WeakE.cons rfl (.refl _) (WeakE.cons rfl (.refl _) (WeakE.cons rfl (.refl _) WeakE.nil))))))))), H82.sel [0, 1, 2, 3, 4] (by decide) rfl, h⟩
                ·
                  replace h := if_f hb74 h
                  refine WpC.skip ?_
                  exact ⟨⟨(Tree0.mk z66 [] [] []).Tag, x71, (Tree0.mk z66 [] [] []).Text, (Tree0.mk z66 [] [] []).Attrs⟩, _, _, S69, .refl _ _, .refl _, (WeakE.cons rfl (.refl _) (WeakE.cons rfl (.refl _) (WeakE.cons rfl (.refl _) (WeakE.cons rfl (.refl _) (WeakE.cons rfl (.refl _) (WeakE.cons rfl (.refl _) (WeakE.cons rfl (.refl _) (WeakE.cons rfl (.refl _) (WeakE.cons rfl (.refl _) WeakE.nil))))))))), H70.sel [0, 1, 2, 3, 4] (by decide) rfl, h⟩
              ·
                refine WpC.seq ?_
                refine WpC.region E.obj rfl ?_
                refine wpO.val rfl (oper_fieldAddr rfl fo24_2 nz22 rfl) rfl ?_
                refine wpO.val rfl (oper_load H68 (i := 2) rfl rfl (part_one ag22 rfl)) rfl ?_
                refine wpO.val rfl (oper_move rfl) rfl ?_
                obtain ⟨z83, hzz83, h⟩ := bind_some h
                refine wpO.ret rfl (oper_callF rfl rfl) (porticokeep_pick_ok E _ _ _ _ hzz83 _ _ (ArgsC.eq (ArgsC.eq .nil))) rfl ?_
                obtain ⟨z84, hzz84, h⟩ := bind_some h
                refine wpO.ret rfl (oper_callF rfl rfl) (porticobook_Within_ok E _ _ _ _ _ hzz84 _ _ (ArgsC.eq (ArgsC.eq (ArgsC.eq .nil)))) rfl ?_
                refine wpO.val rfl (oper_assign rfl) rfl ?_
                refine wpO.nil ?_
                refine WpC.seq ?_
                refine WpC.region E.obj rfl ?_
                refine wpO.val rfl (oper_move rfl) rfl ?_
                refine wpO.val rfl (oper_bin rfl rfl binD_lss) rfl ?_
                refine wpO.nil ?_
                refine WpC.cond rfl (fun hb85 => ?_) (fun hb85 => ?_)
                ·
                  replace h := if_t hb85 h
                  refine WpC.region E.obj rfl ?_
                  refine wpO.val rfl (oper_move rfl) rfl ?_
                  refine wpO.val rfl (oper_bin rfl rfl binD_add) rfl ?_
                  refine wpO.val rfl (oper_conv_int rfl us3 it5) rfl ?_
                  refine wpO.val rfl (oper_buildSlice (vs := [(.d (.int .u8 (IntKind.wrap .u8 (IntKind.wrap .i64 (48 + z84)))))]) (ds := [(.int .u8 (IntKind.wrap .u8 (IntKind.wrap .i64 (48 + z84))))]) rw34 el34 ag5 zo5 sz5 rfl (by decide) (.cons rfl rfl .nil) rfl (by intro d hd; simp only [List.mem_cons, List.not_mem_nil, or_false] at hd; rcases hd with rfl <;> rfl) rfl) rfl ?_
                  refine wpO.val rfl (oper_conv_bytes (l := [(IntKind.wrap .u8 (IntKind.wrap .i64 (48 + z84)))]) rfl st9 bs34) rfl ?_
                  refine wpO.val rfl (oper_fieldAddr rfl fo28_1 nz9 rfl) rfl ?_
                  refine wpO.store H68 (i := 0) rfl rfl rfl rfl rfl rfl sz9 rfl as9 rfl rfl rfl (fun S86 H87 => ?_)
                  refine wpO.nil ?_
                  exact ⟨(([(IntKind.wrap .u8 (IntKind.wrap .i64 (48 + z84)))]).map fun (n : Int) => UInt8.ofNat n.toNat), _, _, S86, .refl _ _, .refl _, (WeakE.cons rfl (.refl _) (WeakE.cons rfl (.refl _) (WeakE.cons rfl (.refl _) (WeakE.cons rfl (.refl _) (WeakE.cons rfl (.refl _) (WeakE.cons rfl (.refl _) (WeakE.cons rfl (.refl _) (WeakE.cons rfl (.refl _) (WeakE.cons rfl (.refl _) WeakE.nil))))))))), H87.sel [0, 1, 2, 3, 4] (by decide) rfl, h⟩
                ·
                  replace h := if_f hb85 h
                  refine WpC.skip ?_
                  exact ⟨(Tree0.mk z66 [] [] []).Key, _, _, S67, .refl _ _, .refl _, (WeakE.cons rfl (.refl _) (WeakE.cons rfl (.refl _) (WeakE.cons rfl (.refl _) (WeakE.cons rfl (.refl _) (WeakE.cons rfl (.refl _) (WeakE.cons rfl (.refl _) (WeakE.cons rfl (.refl _) (WeakE.cons rfl (.refl _) (WeakE.cons rfl (.refl _) WeakE.nil))))))))), H68.sel [0, 1, 2, 3, 4] (by decide) rfl, h⟩
            ·
              replace h := if_f hb65 h
              refine WpC.skip ?_
              exact ⟨⟨(Tree0.mk [] [] z36 []).Tag, (Tree0.mk [] [] z36 []).Key, (Tree0.mk [] [] z36 []).Text, (Tree0.mk [] [] z36 []).Attrs⟩, _, _, S40, .refl _ _, .refl _, (WeakE.cons rfl (.refl _) (WeakE.cons rfl (.refl _) (WeakE.cons rfl (.refl _) (WeakE.cons rfl (.refl _) (WeakE.cons rfl (.refl _) (WeakE.cons rfl (.refl _) (WeakE.cons rfl (.refl _) (WeakE.cons rfl (.refl _) (WeakE.cons rfl (.refl _) WeakE.nil))))))))), H41.sel [0, 1, 2, 3, 4] (by decide) rfl, h⟩
        ·
          refine WpC.seq ?_
          refine WpC.region E.obj rfl ?_
          refine wpO.val rfl (oper_move rfl) rfl ?_
          refine wpO.val rfl (oper_move rfl) rfl ?_
          obtain ⟨z88, hzz88, h⟩ := bind_some h
          refine wpO.val rfl (oper_idx rfl rfl (idxAddr_grow (enc := encTree0) H19 (i := 2) rfl hzz88 el26 as28 ((Tree0.len _).trans sz28.symm))) rfl ?_
          refine wpO.val rfl (oper_fieldAddrE rfl fo28_0 nz9 rfl) rfl ?_
          refine wpO.val rfl (oper_loadE rfl (by rw [Tree0.cells]; exact partD_one ag9 rfl)) rfl ?_
          refine wpO.val rfl (oper_bin rfl rfl binD_seql) rfl ?_
          refine wpO.nil ?_
          refine WpC.cond rfl (fun hb89 => ?_) (fun hb89 => ?_)
          ·
            replace h := if_t hb89 h
            refine WpC.region E.obj rfl ?_
            refine wpO.val rfl (oper_assign rfl) rfl ?_
            refine wpO.nil ?_
            exact ⟨0, _, _, S18, .refl _ _, .refl _, (WeakE.cons rfl (.refl _) (WeakE.cons rfl (.refl _) (WeakE.cons rfl (.refl _) (WeakE.cons rfl (.refl _) (WeakE.cons rfl (.refl _) (WeakE.cons rfl (.refl _) (WeakE.cons rfl (.refl _) (WeakE.cons rfl (.refl _) WeakE.nil)))))))), H19.sel [0, 1, 2, 3] (by decide) rfl, h⟩
          ·
            replace h := if_f hb89 h
            refine WpC.skip ?_
            exact ⟨z29, _, _, S18, .refl _ _, .refl _, (WeakE.cons rfl (.refl _) (WeakE.cons rfl (.refl _) (WeakE.cons rfl (.refl _) (WeakE.cons rfl (.refl _) (WeakE.cons rfl (.refl _) (WeakE.cons rfl (.refl _) (WeakE.cons rfl (.refl _) (WeakE.cons rfl (.refl _) WeakE.nil)))))))), H19.sel [0, 1, 2, 3] (by decide) rfl, h⟩
      ·
        replace h := if_f hb27 h
        refine WpC.exit ?_
        refine WpC.seq ?_
        refine WpC.region E.obj rfl ?_
        refine wpO.val rfl (oper_move rfl) rfl ?_
        refine wpO.val rfl (oper_move rfl) rfl ?_
        obtain ⟨z90, hzz90, h⟩ := bind_some h
        refine wpO.ret rfl (oper_callF rfl rfl) (porticokeep_grow_ok E _ _ _ _ _ hzz90 _ _ (ArgsC.grow H19 (i := 2) rfl (ArgsC.grow H19 (i := 3) rfl (ArgsC.eq .nil)))) rfl ?_
        refine wpO.store H19 (i := 0) rfl rfl rfl rfl (Tree.cellsA _) rfl sz28 rfl as28 rfl rfl rfl (fun S91 H92 => ?_)
        refine wpO.nil ?_
        have hr := Option.some.inj h
        subst hr
        exact WpC.ret ⟨_, resultsE_cell H92 (i := 0) rfl rfl rfl (part_agg ag28 sz28 rfl), rfl, end1 (ArgsC.less_agg (d := encTree z90) (CellsC.eq rfl (CellsC.eq rfl (CellsC.eq rfl (CellsC.eq rfl (CellsC.eq rfl .nil))))) ((Tree.eq _).trans rfl))⟩
set_option maxRecDepth 20000 in
set_option maxHeartbeats 4000000 in
theorem porticobook_Same_api_Attr_ok (n : Nat) (a1 : (List Attr)) (a2 : (List Attr)) (r : Bool) (h : porticobook_Same_api_Attr n a1 a2 = some r) : SpecC R cfg.P 24 [(.sl ((a1).map encAttr) false), (.sl ((a2).map encAttr) false)] (.d (.bool r)) := by
  unfold porticobook_Same_api_Attr at h
  refine SpecC.of_wp E.obj.toObjOk (C := cfg) Tryd.func24 rfl nm24 rfl ?_
  have H0 : Has pureSt pureSt [] := Has.pure
  refine WpC.seq ?_
  refine WpC.region E.obj rfl ?_
  refine wpO.val rfl (oper_assign rfl) rfl ?_
  refine wpO.nil ?_
  refine WpC.seq ?_
  refine WpC.seq ?_
  refine WpC.region E.obj rfl ?_
  refine wpO.val rfl (oper_move rfl) rfl ?_
  refine wpO.val rfl (oper_lenL rfl es25) rfl ?_
  refine wpO.val rfl (oper_move rfl) rfl ?_
  refine wpO.val rfl (oper_lenL rfl es25) rfl ?_
  refine wpO.val rfl (oper_bin rfl rfl binD_neq) rfl ?_
  refine wpO.nil ?_
  refine WpC.cond rfl (fun hb3 => ?_) (fun hb3 => ?_)
  ·
    replace h := if_t hb3 h
    refine WpC.seq ?_
    refine WpC.region E.obj rfl ?_
    refine wpO.val rfl (oper_assign rfl) rfl ?_
    refine wpO.nil ?_
    have hr := Option.some.inj h
    subst hr
    exact WpC.ret ⟨_, rfl, rfl, end1 (ArgsC.eq .nil)⟩
  ·
    replace h := if_f hb3 h
    refine WpC.skip ?_
    refine WpC.seq ?_
    refine WpC.seq ?_
    refine WpC.region E.obj rfl ?_
    refine wpO.val rfl (oper_assign rfl) rfl ?_
    refine wpO.nil ?_
    refine WpC.block ?_
    refine WpL.start (B := pureSt) (α := Int) (fun k a => porticobook_Same_api_Attr_l12 a1 a2 k a = some r) (fun a => [(0, (.d (.sl ((a1).map encAttr) false))), (1, (.d (.sl ((a2).map encAttr) false))), (5, (.d (.int .i64 a)))]) (fun a => []) ?_ ?_ n ⟨0, _, _, pureSt, .refl _ _, .refl _, (WeakE.cons rfl (.refl _) (WeakE.cons rfl (.refl _) (WeakE.cons rfl (.refl _) WeakE.nil))), H0.sel [] (by decide) rfl, h⟩
    · intro a h; simp [porticobook_Same_api_Attr_l12] at h
    ·
      intro k12 x11 S9 H10 h
      replace h : porticobook_Same_api_Attr_l12 a1 a2 (k12 + 1) x11 = some r := h
      replace H10 : Has pureSt S9 [] := H10
      unfold porticobook_Same_api_Attr_l12 at h
      refine WpC.seq ?_
      refine WpC.seq ?_
      refine WpC.region E.obj rfl ?_
      refine wpO.val rfl (oper_move rfl) rfl ?_
      refine wpO.val rfl (oper_move rfl) rfl ?_
      refine wpO.val rfl (oper_lenL rfl es25) rfl ?_
      refine wpO.val rfl (oper_bin rfl rfl binD_lss) rfl ?_
      refine wpO.nil ?_
      refine WpC.cond rfl (fun hb13 => ?_) (fun hb13 => ?_)
      ·
        replace h := if_t hb13 h
        refine WpC.skip ?_
        refine WpC.seq ?_
        refine WpC.block ?_
        refine WpC.seq ?_
        obtain ⟨z14, hzz14, h⟩ := bind_some h
        obtain ⟨z15, hzz15, h⟩ := bind_some h
        refine WpC.drawP E.obj hmix [[(0, none)], [(5, none)], [(17, some 0), (18, some 1)], [(19, some 2)], [(1, none)], [(5, none)], [(21, some 4), (22, some 5)], [(23, some 6)], [(20, some 3), (24, some 7)]] [(0, none), (1, none), (5, none), (25, some 8)] (by kernel_rfl) [] (by decide) [some (.d (.sl ((a1).map encAttr) false)), some (.d (.int .i64 x11)), some (.eptr (encAttr z14) 0), some (.d (encAttr z14)), some (.d (.sl ((a2).map encAttr) false)), some (.d (.int .i64 x11)), some (.eptr (encAttr z15) 0), some (.d (encAttr z15)), some (.d (.bool (!(Attr.beq z14 z15))))] ?_
        refine ⟨[0, 1, 2, 3, 4, 5, 6, 7, 8], by kernel_rfl, ?_, _, rfl, ?_⟩
        ·
          refine .cons rfl rfl rfl (.step ?_) ?_
          ·
            refine wpO.val rfl (oper_move rfl) rfl ?_
            exact wpO.nil ⟨_, _, rfl, fun _ ht => by cases ht; exact ⟨rfl, .refl _⟩⟩
          refine .cons rfl rfl rfl (.step ?_) ?_
          ·
            refine wpO.val rfl (oper_move rfl) rfl ?_
            exact wpO.nil ⟨_, _, rfl, fun _ ht => by cases ht; exact ⟨rfl, .refl _⟩⟩
          refine .cons rfl rfl rfl (.step ?_) ?_
          ·
            refine wpO.val rfl (oper_idx rfl rfl (idxAddr (enc := encAttr) hzz14 el25 as36 ((Attr.len _).trans sz36.symm))) rfl ?_
            exact wpO.nil ⟨_, _, rfl, fun _ ht => by cases ht; exact ⟨rfl, .refl _⟩⟩
          refine .cons rfl rfl rfl (.step ?_) ?_
          ·
            refine wpO.val rfl (oper_loadE rfl (Attr.partW ag36 sz36)) rfl ?_
            exact wpO.nil ⟨_, _, rfl, fun _ ht => by cases ht; exact ⟨rfl, .refl _⟩⟩
          refine .cons rfl rfl rfl (.step ?_) ?_
          ·
            refine wpO.val rfl (oper_move rfl) rfl ?_
            exact wpO.nil ⟨_, _, rfl, fun _ ht => by cases ht; exact ⟨rfl, .refl _⟩⟩
          refine .cons rfl rfl rfl (.step ?_) ?_
          ·
            refine wpO.val rfl (oper_move rfl) rfl ?_
            exact wpO.nil ⟨_, _, rfl, fun _ ht => by cases ht; exact ⟨rfl, .refl _⟩⟩
          refine .cons rfl rfl rfl (.step ?_) ?_
          ·
            refine wpO.val rfl (oper_idx rfl rfl (idxAddr (enc := encAttr) hzz15 el25 as36 ((Attr.len _).trans sz36.symm))) rfl ?_
            exact wpO.nil ⟨_, _, rfl, fun _ ht => by cases ht; exact ⟨rfl, .refl _⟩⟩
          refine .cons rfl rfl rfl (.step ?_) ?_
          ·
            refine wpO.val rfl (oper_loadE rfl (Attr.partW ag36 sz36)) rfl ?_
            exact wpO.nil ⟨_, _, rfl, fun _ ht => by cases ht; exact ⟨rfl, .refl _⟩⟩
          refine .cons rfl rfl rfl (.step ?_) ?_
          ·
            refine wpO.val rfl (oper_bin rfl rfl (binD_stneq (Attr.eq _) (Attr.eq _) (eqD36 _ _))) rfl ?_
            exact wpO.nil ⟨_, _, rfl, fun _ ht => by cases ht; exact ⟨rfl, .refl _⟩⟩
          exact .nil
        refine WpC.cond rfl (fun hb16 => ?_) (fun hb16 => ?_)
        ·
          replace h := if_t hb16 h
          refine WpC.seq ?_
          refine WpC.region E.obj rfl ?_
          refine wpO.val rfl (oper_assign rfl) rfl ?_
          refine wpO.nil ?_
          have hr := Option.some.inj h
          subst hr
          exact WpC.ret ⟨_, rfl, rfl, end1 (ArgsC.eq .nil)⟩
        ·
          replace h := if_f hb16 h
          refine WpC.skip ?_
          refine WpC.region E.obj rfl ?_
          refine wpO.val rfl (oper_move rfl) rfl ?_
          refine wpO.val rfl (oper_bin rfl rfl binD_add) rfl ?_
          refine wpO.val rfl (oper_assign rfl) rfl ?_
          refine wpO.nil ?_
          exact ⟨(IntKind.wrap .i64 (x11 + 1)), _, _, S9, .refl _ _, .refl _, (WeakE.cons rfl (.refl _) (WeakE.cons rfl (.refl _) (WeakE.cons rfl (.refl _) WeakE.nil))), H10.sel [] (by decide) rfl, h⟩
      ·
        replace h := if_f hb13 h
        refine WpC.exit ?_
        refine WpC.seq ?_
        refine WpC.region E.obj rfl ?_
        refine wpO.val rfl (oper_assign rfl) rfl ?_
        refine wpO.nil ?_
        have hr := Option.some.inj h
        subst hr
        exact WpC.ret ⟨_, rfl, rfl, end1 (ArgsC.eq .nil)⟩
set_option maxRecDepth 20000 in
set_option maxHeartbeats 4000000 in
theorem porticokeep_Trees_ok : ∀ (n : Nat) (a1 : Tree) (a2 : Tree) (r : Bool), porticokeep_Trees n a1 a2 = some r → SpecC R cfg.P 8 [(encTree a1), (encTree a2)] (.d (.bool r))
  | 0, a1, a2, r, h => by simp [porticokeep_Trees] at h
  | n + 1, a1, a2, r, h => by
    have ih := porticokeep_Trees_ok n
    unfold porticokeep_Trees at h
    refine SpecC.of_wp E.obj.toObjOk (C := cfg) Tryd.func8 rfl nm8 rfl ?_
    have H0 : Has pureSt pureSt [] := Has.pure
    refine WpC.seq ?_
    refine WpC.region E.obj rfl ?_
    refine wpO.box H0 rfl rfl rfl (Tree.cellsA _) rfl (fun b3 S4 H5 => ?_)
    refine wpO.box H5 rfl rfl rfl (Tree.cellsA _) rfl (fun b6 S7 H8 => ?_)
    refine wpO.val rfl (oper_assign rfl) rfl ?_
    refine wpO.nil ?_
    refine WpC.seq ?_
    refine WpC.seq ?_
    refine WpC.region E.obj rfl ?_
    refine wpO.val rfl (oper_fieldAddr rfl fo28_0 nz9 rfl) rfl ?_
    refine wpO.val rfl (oper_load H8 (i := 1) rfl rfl (part_one ag9 rfl)) rfl ?_
    refine wpO.val rfl (oper_fieldAddr rfl fo28_0 nz9 rfl) rfl ?_
    refine wpO.val rfl (oper_load H8 (i := 0) rfl rfl (part_one ag9 rfl)) rfl ?_
    refine wpO.val rfl (oper_bin rfl rfl binD_sneq) rfl ?_
    refine wpO.val rfl (oper_move rfl) rfl ?_
    refine wpO.groupV 6 17 (.d (.bool ((!(a1.Tag == a2.Tag)) || (!(a1.Key == a2.Key))))) ?_ ?_
    ·
      rcases Bool.eq_false_or_eq_true ((!(a1.Tag == a2.Tag))) with hB9 | hB9
      ·
        refine wpO.bool hB9 ?_
        refine wpO.no rfl rfl ?_
        refine wpO.no rfl rfl ?_
        refine wpO.no rfl rfl ?_
        refine wpO.no rfl rfl ?_
        refine wpO.no rfl rfl ?_
        refine wpO.val rfl (oper_pick (b := true) rfl rfl) rfl ?_
        exact wpO.nil ⟨_, rfl, (WeakE.put (WeakE.push rfl (WeakE.push rfl (WeakE.push rfl (WeakE.push rfl (WeakE.push rfl (WeakE.put (.refl _) (Less.eq (by rw [hB9])))))))) (Less.eq (by rw [hB9]; rw [Bool.true_or])))⟩
      ·
        refine wpO.bool hB9 ?_
        refine wpO.val rfl (oper_fieldAddr rfl fo28_1 nz9 rfl) rfl ?_
        refine wpO.val rfl (oper_load H8 (i := 1) rfl rfl (part_one ag9 rfl)) rfl ?_
        refine wpO.val rfl (oper_fieldAddr rfl fo28_1 nz9 rfl) rfl ?_
        refine wpO.val rfl (oper_load H8 (i := 0) rfl rfl (part_one ag9 rfl)) rfl ?_
        refine wpO.val rfl (oper_bin rfl rfl binD_sneq) rfl ?_
        refine wpO.val rfl (oper_pick (b := false) rfl rfl) rfl ?_
        exact wpO.nil ⟨_, rfl, (WeakE.put (WeakE.push rfl (WeakE.push rfl (WeakE.push rfl (WeakE.push rfl (WeakE.push rfl (WeakE.put (.refl _) (Less.eq (by rw [hB9])))))))) (Less.eq (by rw [hB9]; rw [Bool.false_or])))⟩
    ·
      refine wpO.val rfl (oper_move rfl) rfl ?_
      refine wpO.groupV 6 24 (.d (.bool (((!(a1.Tag == a2.Tag)) || (!(a1.Key == a2.Key))) || (!(a1.Text == a2.Text))))) ?_ ?_
      ·
        rcases Bool.eq_false_or_eq_true (((!(a1.Tag == a2.Tag)) || (!(a1.Key == a2.Key)))) with hB10 | hB10
        ·
          refine wpO.bool hB10 ?_
          refine wpO.no rfl rfl ?_
          refine wpO.no rfl rfl ?_
          refine wpO.no rfl rfl ?_
          refine wpO.no rfl rfl ?_
          refine wpO.no rfl rfl ?_
          refine wpO.val rfl (oper_pick (b := true) rfl rfl) rfl ?_
          exact wpO.nil ⟨_, rfl, (WeakE.put (WeakE.push rfl (WeakE.push rfl (WeakE.push rfl (WeakE.push rfl (WeakE.push rfl (WeakE.put (.refl _) (Less.eq (by rw [hB10])))))))) (Less.eq (by rw [hB10]; rw [Bool.true_or])))⟩
        ·
          refine wpO.bool hB10 ?_
          refine wpO.val rfl (oper_fieldAddr rfl fo28_2 nz9 rfl) rfl ?_
          refine wpO.val rfl (oper_load H8 (i := 1) rfl rfl (part_one ag9 rfl)) rfl ?_
          refine wpO.val rfl (oper_fieldAddr rfl fo28_2 nz9 rfl) rfl ?_
          refine wpO.val rfl (oper_load H8 (i := 0) rfl rfl (part_one ag9 rfl)) rfl ?_
          refine wpO.val rfl (oper_bin rfl rfl binD_sneq) rfl ?_
          refine wpO.val rfl (oper_pick (b := false) rfl rfl) rfl ?_
          exact wpO.nil ⟨_, rfl, (WeakE.put (WeakE.push rfl (WeakE.push rfl (WeakE.push rfl (WeakE.push rfl (WeakE.push rfl (WeakE.put (.refl _) (Less.eq (by rw [hB10])))))))) (Less.eq (by rw [hB10]; rw [Bool.false_or])))⟩
      ·
        refine wpO.val rfl (oper_move rfl) rfl ?_
        obtain ⟨z12, hzz12, h⟩ := bind_some h
        refine wpO.groupV 7 32 (.d (.bool z12)) ?_ ?_
        ·
          rcases Bool.eq_false_or_eq_true ((((!(a1.Tag == a2.Tag)) || (!(a1.Key == a2.Key))) || (!(a1.Text == a2.Text)))) with hB11 | hB11
          ·
            refine wpO.bool hB11 ?_
            refine wpO.no rfl rfl ?_
            refine wpO.no rfl rfl ?_
            refine wpO.no rfl rfl ?_
            refine wpO.no rfl rfl ?_
            refine wpO.no rfl rfl ?_
            refine wpO.no rfl rfl ?_
            refine wpO.val rfl (oper_pick (b := true) rfl rfl) rfl ?_
            replace hzz12 := if_t hB11 hzz12
            cases hzz12
            exact wpO.nil ⟨_, rfl, (WeakE.put (WeakE.push rfl (WeakE.push rfl (WeakE.push rfl (WeakE.push rfl (WeakE.push rfl (WeakE.push rfl (WeakE.put (.refl _) (Less.eq (by rw [hB11]))))))))) (.refl _))⟩
          ·
            refine wpO.bool hB11 ?_
            replace hzz12 := if_f hB11 hzz12
            refine wpO.val rfl (oper_fieldAddr rfl fo28_3 nz25 rfl) rfl ?_
            refine wpO.val rfl (oper_load H8 (i := 1) rfl rfl (part_one ag25 rfl)) rfl ?_
            refine wpO.val rfl (oper_fieldAddr rfl fo28_3 nz25 rfl) rfl ?_
            refine wpO.val rfl (oper_load H8 (i := 0) rfl rfl (part_one ag25 rfl)) rfl ?_
            obtain ⟨z13, hzz13, hzz12⟩ := bind_some hzz12
            refine wpO.ret rfl (oper_callF rfl rfl) (porticobook_Same_api_Attr_ok E _ _ _ _ hzz13 _ _ (ArgsC.eq (ArgsC.eq .nil))) rfl ?_
            refine wpO.val rfl (oper_not rfl) rfl ?_
            refine wpO.val rfl (oper_pick (b := false) rfl rfl) rfl ?_
            cases hzz12
            exact wpO.nil ⟨_, rfl, (WeakE.put (WeakE.push rfl (WeakE.push rfl (WeakE.push rfl (WeakE.push rfl (WeakE.push rfl (WeakE.push rfl (WeakE.put (.refl _) (Less.eq (by rw [hB11]))))))))) (.refl _))⟩
        ·
          refine wpO.val rfl (oper_move rfl) rfl ?_
          refine wpO.groupV 8 41 (.d (.bool (z12 || (((a1.Kids).length : Int) != ((a2.Kids).length : Int))))) ?_ ?_
          ·
            rcases Bool.eq_false_or_eq_true (z12) with hB14 | hB14
            ·
              refine wpO.bool hB14 ?_
              refine wpO.no rfl rfl ?_
              refine wpO.no rfl rfl ?_
              refine wpO.no rfl rfl ?_
              refine wpO.no rfl rfl ?_
              refine wpO.no rfl rfl ?_
              refine wpO.no rfl rfl ?_
              refine wpO.no rfl rfl ?_
              refine wpO.val rfl (oper_pick (b := true) rfl rfl) rfl ?_
              exact wpO.nil ⟨_, rfl, (WeakE.put (WeakE.push rfl (WeakE.push rfl (WeakE.push rfl (WeakE.push rfl (WeakE.push rfl (WeakE.push rfl (WeakE.push rfl (WeakE.put (.refl _) (Less.eq (by rw [hB14])))))))))) (Less.eq (by rw [hB14]; rw [Bool.true_or])))⟩
            ·
              refine wpO.bool hB14 ?_
              refine wpO.val rfl (oper_fieldAddr rfl fo28_4 nz26 rfl) rfl ?_
              refine wpO.val rfl (oper_load H8 (i := 1) rfl rfl (part_one ag26 rfl)) rfl ?_
              refine wpO.val rfl (oper_lenL rfl es26) rfl ?_
              refine wpO.val rfl (oper_fieldAddr rfl fo28_4 nz26 rfl) rfl ?_
              refine wpO.val rfl (oper_load H8 (i := 0) rfl rfl (part_one ag26 rfl)) rfl ?_
              refine wpO.val rfl (oper_lenL rfl es26) rfl ?_
              refine wpO.val rfl (oper_bin rfl rfl binD_neq) rfl ?_
              refine wpO.val rfl (oper_pick (b := false) rfl rfl) rfl ?_
              exact wpO.nil ⟨_, rfl, (WeakE.put (WeakE.push rfl (WeakE.push rfl (WeakE.push rfl (WeakE.push rfl (WeakE.push rfl (WeakE.push rfl (WeakE.push rfl (WeakE.put (.refl _) (Less.eq (by rw [hB14])))))))))) (Less.eq (by rw [hB14]; rw [Bool.false_or])))⟩
          ·
            refine wpO.nil ?_
            refine WpC.cond rfl (fun hb15 => ?_) (fun hb15 => ?_)
            ·
              replace h := if_t hb15 h
              refine WpC.seq ?_
              refine WpC.region E.obj rfl ?_
              refine wpO.val rfl (oper_assign rfl) rfl ?_
              refine wpO.nil ?_
              have hr := Option.some.inj h
              subst hr
              exact WpC.ret ⟨_, rfl, rfl, end1 (ArgsC.eq .nil)⟩
            ·
              replace h := if_f hb15 h
              refine WpC.skip ?_
              refine WpC.seq ?_
              refine WpC.seq ?_
              refine WpC.region E.obj rfl ?_
              refine wpO.val rfl (oper_fieldAddr rfl fo28_4 nz26 rfl) rfl ?_
              refine wpO.val rfl (oper_load H8 (i := 1) rfl rfl (part_one ag26 rfl)) rfl ?_
              refine wpO.val rfl (oper_lenL rfl es26) rfl ?_
              refine wpO.val rfl (oper_move rfl) rfl ?_
              refine wpO.nil ?_
              refine WpC.block ?_
              refine WpL.start (B := pureSt) (α := Int) (fun k a => porticokeep_Trees_l24 (porticokeep_Trees n) a1 a2 k a = some r) (fun a => [(2, (.ptr b3 0 0)), (3, (.ptr b6 0 0)), (44, (.d (.int .i64 ((a1.Kids).length : Int)))), (45, (.d (.int .i64 a)))]) (fun a => [.box b6 [(.d (.str a2.Tag)), (.d (.str a2.Key)), (.d (.str a2.Text)), (.d (.sl ((a2.Attrs).map encAttr) false)), (.d (.sl ((a2.Kids).map encTree) false))], .box b3 [(.d (.str a1.Tag)), (.d (.str a1.Key)), (.d (.str a1.Text)), (.d (.sl ((a1.Attrs).map encAttr) false)), (.d (.sl ((a1.Kids).map encTree) false))]]) ?_ ?_ n ⟨0, _, _, S7, .refl _ _, .refl _, (WeakE.cons rfl (.refl _) (WeakE.cons rfl (.refl _) (WeakE.cons rfl (.refl _) (WeakE.cons rfl (.refl _) WeakE.nil)))), H8.sel [0, 1] (by decide) rfl, h⟩
              · intro a h; simp [porticokeep_Trees_l24] at h
              ·
                intro k24 x23 S21 H22 h
                replace h : porticokeep_Trees_l24 (porticokeep_Trees n) a1 a2 (k24 + 1) x23 = some r := h
                replace H22 : Has pureSt S21 [.box b6 [(.d (.str a2.Tag)), (.d (.str a2.Key)), (.d (.str a2.Text)), (.d (.sl ((a2.Attrs).map encAttr) false)), (.d (.sl ((a2.Kids).map encTree) false))], .box b3 [(.d (.str a1.Tag)), (.d (.str a1.Key)), (.d (.str a1.Text)), (.d (.sl ((a1.Attrs).map encAttr) false)), (.d (.sl ((a1.Kids).map encTree) false))]] := H22
                unfold porticokeep_Trees_l24 at h
                refine WpC.seq ?_
                refine WpC.region E.obj rfl ?_
                refine wpO.val rfl (oper_bin rfl rfl binD_lss) rfl ?_
                refine wpO.nil ?_
                refine WpC.seq ?_
                refine WpC.cond rfl (fun hb25 => ?_) (fun hb25 => ?_)
                ·
                  replace h := if_t hb25 h
                  refine WpC.skip ?_
                  refine WpC.seq ?_
                  refine WpC.block ?_
                  refine WpC.seq ?_
                  refine WpC.region E.obj rfl ?_
                  refine wpO.val rfl (oper_move rfl) rfl ?_
                  refine wpO.val rfl (oper_assign rfl) rfl ?_
                  refine wpO.nil ?_
                  refine WpC.seq ?_
                  obtain ⟨z26, hzz26, h⟩ := bind_some h
                  obtain ⟨z27, hzz27, h⟩ := bind_some h
                  obtain ⟨z28, hzz28, h⟩ := bind_some h
                  refine WpC.drawP E.obj hmix [[(2, none)], [(48, some 0)], [(5, none)], [(49, some 1), (50, some 2)], [(51, some 3)], [(3, none)], [(53, some 5)], [(5, none)], [(54, some 6), (55, some 7)], [(56, some 8)], [(52, some 4), (57, some 9)], [(58, some 10)]] [(2, none), (3, none), (44, none), (45, none), (59, some 11)] (by kernel_rfl) [] (by decide) [some (.ptr b3 0 4), some (.d (.sl ((a1.Kids).map encTree) false)), some (.d (.int .i64 x23)), some (.eptr (encTree z26) 0), some (.d (encTree z26)), some (.ptr b6 0 4), some (.d (.sl ((a2.Kids).map encTree) false)), some (.d (.int .i64 x23)), some (.eptr (encTree z27) 0), some (.d (encTree z27)), some (.d (.bool z28)), some (.d (.bool (!z28)))] ?_
                  refine ⟨[0, 1, 2, 3, 4, 5, 6, 7, 8, 9, 10, 11], by kernel_rfl, ?_, _, rfl, ?_⟩
                  ·
                    refine .cons rfl rfl rfl (.step ?_) ?_
                    ·
                      refine wpO.val rfl (oper_fieldAddr rfl fo28_4 nz26 rfl) rfl ?_
                      exact wpO.nil ⟨_, _, rfl, fun _ ht => by cases ht; exact ⟨rfl, .refl _⟩⟩
                    refine .cons rfl rfl rfl (.step ?_) ?_
                    ·
                      refine wpO.val rfl (oper_load H22 (i := 1) rfl rfl (part_one ag26 rfl)) rfl ?_
                      exact wpO.nil ⟨_, _, rfl, fun _ ht => by cases ht; exact ⟨rfl, .refl _⟩⟩
                    refine .cons rfl rfl rfl (.step ?_) ?_
                    ·
                      refine wpO.val rfl (oper_move rfl) rfl ?_
                      exact wpO.nil ⟨_, _, rfl, fun _ ht => by cases ht; exact ⟨rfl, .refl _⟩⟩
                    refine .cons rfl rfl rfl (.step ?_) ?_
                    ·
                      refine wpO.val rfl (oper_idx rfl rfl (idxAddr (enc := encTree) hzz26 el26 as28 ((Tree.len _).trans sz28.symm))) rfl ?_
                      exact wpO.nil ⟨_, _, rfl, fun _ ht => by cases ht; exact ⟨rfl, .refl _⟩⟩
                    refine .cons rfl rfl rfl (.step ?_) ?_
                    ·
                      refine wpO.val rfl (oper_loadE rfl (Tree.partW ag28 sz28)) rfl ?_
                      exact wpO.nil ⟨_, _, rfl, fun _ ht => by cases ht; exact ⟨rfl, .refl _⟩⟩
                    refine .cons rfl rfl rfl (.step ?_) ?_
                    ·
                      refine wpO.val rfl (oper_fieldAddr rfl fo28_4 nz26 rfl) rfl ?_
                      exact wpO.nil ⟨_, _, rfl, fun _ ht => by cases ht; exact ⟨rfl, .refl _⟩⟩
                    refine .cons rfl rfl rfl (.step ?_) ?_
                    ·
                      refine wpO.val rfl (oper_load H22 (i := 0) rfl rfl (part_one ag26 rfl)) rfl ?_
                      exact wpO.nil ⟨_, _, rfl, fun _ ht => by cases ht; exact ⟨rfl, .refl _⟩⟩
                    refine .cons rfl rfl rfl (.step ?_) ?_
                    ·
                      refine wpO.val rfl (oper_move rfl) rfl ?_
                      exact wpO.nil ⟨_, _, rfl, fun _ ht => by cases ht; exact ⟨rfl, .refl _⟩⟩
                    refine .cons rfl rfl rfl (.step ?_) ?_
                    ·
                      refine wpO.val rfl (oper_idx rfl rfl (idxAddr (enc := encTree) hzz27 el26 as28 ((Tree.len _).trans sz28.symm))) rfl ?_
                      exact wpO.nil ⟨_, _, rfl, fun _ ht => by cases ht; exact ⟨rfl, .refl _⟩⟩
                    refine .cons rfl rfl rfl (.step ?_) ?_
                    ·
                      refine wpO.val rfl (oper_loadE rfl (Tree.partW ag28 sz28)) rfl ?_
                      exact wpO.nil ⟨_, _, rfl, fun _ ht => by cases ht; exact ⟨rfl, .refl _⟩⟩
                    refine .cons rfl rfl rfl (.step ?_) ?_
                    ·
                      refine wpO.ret rfl (oper_callF rfl rfl) (ih _ _ _ hzz28 _ _ (ArgsC.eq (ArgsC.eq .nil))) rfl ?_
                      exact wpO.nil ⟨_, _, rfl, fun _ ht => by cases ht; exact ⟨rfl, .refl _⟩⟩
                    refine .cons rfl rfl rfl (.step ?_) ?_
                    ·
                      refine wpO.val rfl (oper_not rfl) rfl ?_
                      exact wpO.nil ⟨_, _, rfl, fun _ ht => by cases ht; exact ⟨rfl, .refl _⟩⟩
                    exact .nil
                  refine WpC.cond rfl (fun hb29 => ?_) (fun hb29 => ?_)
                  ·
                    replace h := if_t hb29 h
                    refine WpC.seq ?_
                    refine WpC.region E.obj rfl ?_
                    refine wpO.val rfl (oper_assign rfl) rfl ?_
                    refine wpO.nil ?_
                    have hr := Option.some.inj h
                    subst hr
                    exact WpC.ret ⟨_, rfl, rfl, end1 (ArgsC.eq .nil)⟩
                  ·
                    replace h := if_f hb29 h
                    refine WpC.skip ?_
                    refine WpC.region E.obj rfl ?_
                    refine wpO.val rfl (oper_bin rfl rfl binD_add) rfl ?_
                    refine wpO.val rfl (oper_move rfl) rfl ?_
                    refine wpO.nil ?_
                    exact ⟨(IntKind.wrap .i64 (x23 + 1)), _, _, S21, .refl _ _, .refl _, (WeakE.cons rfl (.refl _) (WeakE.cons rfl (.refl _) (WeakE.cons rfl (.refl _) (WeakE.cons rfl (.refl _) WeakE.nil)))), H22.sel [0, 1] (by decide) rfl, h⟩
                ·
                  replace h := if_f hb25 h
                  refine WpC.exit ?_
                  refine WpC.seq ?_
                  refine WpC.region E.obj rfl ?_
                  refine wpO.val rfl (oper_assign rfl) rfl ?_
                  refine wpO.nil ?_
                  have hr := Option.some.inj h
                  subst hr
                  exact WpC.ret ⟨_, rfl, rfl, end1 (ArgsC.eq .nil)⟩
theorem slices_Clone__api_Attr_api_Attr__ok (n : Nat) (a1 : (List Attr)) (r : (List Attr)) (h : slices_Clone__api_Attr_api_Attr_ n a1 = some r) : SpecC R cfg.P 25 [(.sl ((a1).map encAttr) false)] (.d (.sl ((r).map encAttr) false)) := by
  unfold slices_Clone__api_Attr_api_Attr_ at h
  refine SpecC.of_wp E.obj.toObjOk (C := cfg) Tryd.func25 rfl nm25 rfl ?_
  have H0 : Has pureSt pureSt [] := Has.pure
  refine WpC.seq ?_
  refine WpC.region E.obj rfl ?_
  refine wpO.val rfl (oper_assign rfl) rfl ?_
  refine wpO.nil ?_
  refine WpC.seq ?_
  refine WpC.seq ?_
  refine WpC.region E.obj rfl ?_
  refine wpO.val rfl (oper_move rfl) rfl ?_
  refine wpO.eqNil rfl rfl rfl us25s rfl (fun bb hbb => ?_)
  refine wpO.nil ?_
  refine WpC.cond rfl (fun hb => ?_) (fun hb => ?_)
  · have e := map_nil (hbb hb)
    subst e
    have hr := (app_some h).2
    subst hr
    refine WpC.seq ?_
    refine WpC.region E.obj rfl ?_
    refine wpO.val rfl (oper_assign rfl) rfl ?_
    refine wpO.nil ?_
    exact WpC.ret ⟨_, rfl, rfl, end1 (ArgsC.consW rfl (.nils false) .nil)⟩
  · refine WpC.skip ?_
    refine WpC.seq ?_
    refine WpC.region E.obj rfl ?_
    refine wpO.val rfl (oper_buildSlice0 rw25 el25 ag36) rfl ?_
    refine wpO.val rfl (oper_move rfl) rfl ?_
    have H1 := H0.tightG (([] : (List Attr)).map encAttr)
    refine wpO.append (xs := ([] : (List Attr)).map encAttr) (ys := (a1).map encAttr) (zs := (r).map encAttr) H1 rfl rfl rfl (i := 0) rfl rfl rw25 os25 el25 (app_bound (enc := encAttr) h) nb36 rfl (sizes_map (enc := encAttr) (fun z => (Attr.len z).trans sz36.symm) _) (sizes_map (enc := encAttr) (fun z => (Attr.len z).trans sz36.symm) _) zk36 rfl (app_eq h) (fun v2 S2 H2 => ?_)
    refine wpO.val rfl (oper_assign rfl) rfl ?_
    refine wpO.nil ?_
    exact WpC.ret ⟨_, rfl, rfl, end1 (ArgsC.grow H2 (i := 0) rfl .nil)⟩
theorem slices_Clone__api_Tree_api_Tree__okN (n : Nat) (a1 : (List Tree)) (r : (List Tree)) (h : slices_Clone__api_Tree_api_Tree_ n a1 = some r) : SpecN R cfg.P 26 [(.sl ((a1).map encTree) false)] (fun v l => l = [.row 5 v ((r).map encTree)]) := by
  unfold slices_Clone__api_Tree_api_Tree_ at h
  refine SpecN.of_wp (C := cfgR1) Tryd.func26 rfl nm26 rfl (fun S0 wf0 => ?_)
  have H0 : Has S0 S0 [] := Has.start wf0
  refine WpC.seq ?_
  refine WpC.region (objR1 E) rfl ?_
  refine wpO.val rfl (oper_assign rfl) rfl ?_
  refine wpO.nil ?_
  refine WpC.seq ?_
  refine WpC.seq ?_
  refine WpC.region (objR1 E) rfl ?_
  refine wpO.val rfl (oper_move rfl) rfl ?_
  refine wpO.eqNil rfl rfl rfl us26s rfl (fun bb hbb => ?_)
  refine wpO.nil ?_
  refine WpC.cond rfl (fun hb => ?_) (fun hb => ?_)
  · have e := map_nil (hbb hb)
    subst e
    have hr := (app_some h).2
    subst hr
    refine WpC.seq ?_
    refine WpC.region (objR1 E) rfl ?_
    refine wpO.val rfl (oper_assign rfl) rfl ?_
    refine wpO.nil ?_
    exact WpC.ret ⟨_, rfl, rfl, _, _, .refl _, rfl, H0.nilR 5⟩
  · refine WpC.skip ?_
    refine WpC.seq ?_
    refine WpC.region (objR1 E) rfl ?_
    refine wpO.val rfl (oper_buildSlice0R bs26xR1 el26 ag28) rfl ?_
    refine wpO.val rfl (oper_move rfl) rfl ?_
    have H1 := H0.tightR 5
    refine wpO.rowAppend (xs := ([] : (List Tree)).map encTree) (ys := (a1).map encTree) (zs := (r).map encTree) H1 rfl rfl rfl (i := 0) rfl sz28 rfl rw26R1 os26R1 el26 (app_bound (enc := encTree) h) nb28 rfl (sizes_map (enc := encTree) (fun z => (Tree.len z).trans sz28.symm) _) (flat_map (fun x => Tree.flat x) _) rfl zk28R1 rfl (app_eq h) (fun v2 S2 H2 => ?_)
    refine wpO.val rfl (oper_assign rfl) rfl ?_
    refine wpO.nil ?_
    exact WpC.ret ⟨_, rfl, rfl, _, _, .refl _, rfl, H2⟩
set_option maxRecDepth 20000 in
set_option maxHeartbeats 4000000 in
theorem shape_Copy_ok : ∀ (n : Nat) (a1 : Tree) (r : Tree), shape_Copy n a1 = some r → SpecC R cfg.P 10 [(encTree a1)] (.d (encTree r))
  | 0, a1, r, h => by simp [shape_Copy] at h
  | n + 1, a1, r, h => by
    have ih := shape_Copy_ok n
    unfold shape_Copy at h
    refine SpecC.of_wp (objR1 E).toObjOk (C := cfgR1) Tryd.func10 rfl nm10 rfl ?_
    have H0 : Has pureSt pureSt [] := Has.pure
    refine WpC.seq ?_
    refine WpC.region (objR1 E) rfl ?_
    refine wpO.box H0 rfl rfl rfl (Tree.cellsA _) rfl (fun b2 S3 H4 => ?_)
    refine wpO.alloc H4 rfl ob28R1 zo28 rfl rfl (fun b5 S6 H7 => ?_)
    refine wpO.nil ?_
    refine WpC.seq ?_
    refine WpC.region (objR1 E) rfl ?_
    refine wpO.val rfl (oper_fieldAddr rfl fo28_3 nz25 rfl) rfl ?_
    refine wpO.val rfl (oper_load H7 (i := 1) rfl rfl (part_one ag25 rfl)) rfl ?_
    obtain ⟨z8, hzz8, h⟩ := bind_some h
    refine wpO.ret rfl (oper_callF rfl rfl) (slices_Clone__api_Attr_api_Attr__ok E _ _ _ hzz8 _ _ (ArgsC.eq .nil)) rfl ?_
    refine wpO.val rfl (oper_fieldAddr rfl fo28_3 nz25 rfl) rfl ?_
    refine wpO.store H7 (i := 1) rfl rfl rfl rfl rfl rfl sz25 rfl as25 rfl rfl rfl (fun S9 H10 => ?_)
    refine wpO.nil ?_
    refine WpC.seq ?_
    refine WpC.region (objR1 E) rfl ?_
    refine wpO.val rfl (oper_fieldAddr rfl fo28_4 nz26 rfl) rfl ?_
    refine wpO.val rfl (oper_load H10 (i := 1) rfl rfl (part_one ag26 rfl)) rfl ?_
    obtain ⟨z11, hzz11, h⟩ := bind_some h
    refine wpO.retN H10 rfl (oper_callF rfl rfl) (slices_Clone__api_Tree_api_Tree__okN E n _ _ hzz11) (ArgsC.eq .nil) rfl ?_
    rintro v12 S13 _ rfl H14
    refine wpO.val rfl (oper_fieldAddr rfl fo28_4 nz26 rfl) rfl ?_
    refine wpO.store H14 (i := 2) rfl rfl rfl rfl (row_plain (H14.at (i := 0) rfl)).2 rfl sz26 (row_plain (H14.at (i := 0) rfl)).1 as26 rfl rfl rfl (fun S17 H18 => ?_)
    refine wpO.nil ?_
    refine WpC.seq ?_
    refine WpC.seq ?_
    refine WpC.region (objR1 E) rfl ?_
    refine wpO.val rfl (oper_fieldAddr rfl fo28_4 nz26 rfl) rfl ?_
    refine wpO.val rfl (oper_load H18 (i := 2) rfl rfl (part_one ag26 rfl)) rfl ?_
    refine wpO.val rfl (oper_lenR H18 (i := 0) rfl rfl es26) rfl ?_
    refine wpO.val rfl (oper_move rfl) rfl ?_
    refine wpO.nil ?_
    refine WpC.block ?_
    refine WpL.start (B := pureSt) (α := (List Tree) × Int) (fun k a => shape_Copy_l29 (shape_Copy n) a1 z8 z11 k a.1 a.2 = some r) (fun a => [(1, (.ptr b2 0 0)), (2, (.ptr b5 0 0)), (14, v12), (15, (.d (.int .i64 ((z11).length : Int)))), (16, (.d (.int .i64 a.2)))]) (fun a => [.row 5 v12 ((a.1).map encTree), .box b5 [(.d (.str [])), (.d (.str [])), (.d (.str [])), (.d .nils), (.d .nils)], .box b2 [(.d (.str a1.Tag)), (.d (.str a1.Key)), (.d (.str a1.Text)), (.d (.sl ((z8).map encAttr) false)), v12]]) ?_ ?_ n ⟨⟨z11, 0⟩, _, _, S17, .refl _ _, .refl _, (WeakE.cons rfl (.refl _) (WeakE.cons rfl (.refl _) (WeakE.cons rfl (.refl _) (WeakE.cons rfl (.refl _) (WeakE.cons rfl (.refl _) WeakE.nil))))), H18.sel [0, 1, 2] (by decide) rfl, h⟩
    · intro a h; simp [shape_Copy_l29] at h
    ·
      intro k29 a S25 H26 h
      obtain ⟨x27, x28⟩ := a
      replace h : shape_Copy_l29 (shape_Copy n) a1 z8 z11 (k29 + 1) x27 x28 = some r := h
      replace H26 : Has pureSt S25 [.row 5 v12 ((x27).map encTree), .box b5 [(.d (.str [])), (.d (.str [])), (.d (.str [])), (.d .nils), (.d .nils)], .box b2 [(.d (.str a1.Tag)), (.d (.str a1.Key)), (.d (.str a1.Text)), (.d (.sl ((z8).map encAttr) false)), v12]] := H26
      unfold shape_Copy_l29 at h
      refine WpC.seq ?_
      refine WpC.region (objR1 E) rfl ?_
      refine wpO.val rfl (oper_bin rfl rfl binD_lss) rfl ?_
      refine wpO.nil ?_
      refine WpC.seq ?_
      refine WpC.cond rfl (fun hb30 => ?_) (fun hb30 => ?_)
      ·
        replace h := if_t hb30 h
        refine WpC.skip ?_
        refine WpC.seq ?_
        refine WpC.block ?_
        refine WpC.seq ?_
        refine WpC.region (objR1 E) rfl ?_
        refine wpO.val rfl (oper_move rfl) rfl ?_
        obtain ⟨z31, hzz31, h⟩ := bind_some h
        refine wpO.rowIdxP (enc := encTree) H26 rfl (i := 0) rfl rfl rfl hzz31 el26 as28 ((Tree.len _).trans sz28.symm) rfl ?_
        refine wpO.rowLoadP H26 rfl (i := 0) rfl hzz31 rfl (Tree.partW ag28 sz28) rfl ?_
        refine wpO.alloc H26 rfl ob28R1 zo28 rfl rfl (fun b32 S33 H34 => ?_)
        refine wpO.val rfl (oper_assign rfl) rfl ?_
        refine wpO.store H34 (i := 0) rfl rfl rfl rfl (Tree.cellsA _) rfl sz28 rfl as28 rfl rfl rfl (fun S35 H36 => ?_)
        refine wpO.nil ?_
        obtain ⟨z37, hzz37, h⟩ := bind_some h
        obtain ⟨z38, hzz38, h⟩ := bind_some h
        refine WpC.drawP (objR1 E) hmix [[(1, none)], [(21, some 0)], [(3, none)], [(4, none)], [(24, some 3)], [(22, some 1), (23, some 2)], [(25, some 4), (26, some 5)]] [(1, none), (2, none), (14, none), (15, none), (16, none)] (by kernel_rfl) [6] (by decide) [some (.ptr b2 0 4), some v12, some (.d (.int .i64 x28)), some (.d (encTree z31)), some (.d (encTree z37)), some (rowPtr v12 (Int.toNat x28) 0), none] ?_
        refine ⟨[0, 1, 2, 3, 4, 5], by kernel_rfl, ?_, _, _, rfl, rfl, .step ?_⟩
        ·
          refine .cons rfl rfl rfl (.step ?_) ?_
          ·
            refine wpO.val rfl (oper_fieldAddr rfl fo28_4 nz26 rfl) rfl ?_
            exact wpO.nil ⟨_, _, rfl, fun _ ht => by cases ht; exact ⟨rfl, .refl _⟩⟩
          refine .cons rfl rfl rfl (.step ?_) ?_
          ·
            refine wpO.val rfl (oper_load H36 (i := 3) rfl rfl (part_one ag26 rfl)) rfl ?_
            exact wpO.nil ⟨_, _, rfl, fun _ ht => by cases ht; exact ⟨rfl, .refl _⟩⟩
          refine .cons rfl rfl rfl (.step ?_) ?_
          ·
            refine wpO.val rfl (oper_move rfl) rfl ?_
            exact wpO.nil ⟨_, _, rfl, fun _ ht => by cases ht; exact ⟨rfl, .refl _⟩⟩
          refine .cons rfl rfl rfl (.step ?_) ?_
          ·
            refine wpO.val rfl (oper_load H36 (i := 0) rfl rfl (part_agg ag28 sz28 rfl)) rfl ?_
            refine wpO.less (Less.agg' (d := encTree z31) (CellsC.eq rfl (CellsC.eq rfl (CellsC.eq rfl (CellsC.eq rfl (CellsC.eq rfl .nil))))) ((Tree.eq _).trans rfl)) ?_
            exact wpO.nil ⟨_, _, rfl, fun _ ht => by cases ht; exact ⟨rfl, .refl _⟩⟩
          refine .cons rfl rfl rfl (.step ?_) ?_
          ·
            refine wpO.ret rfl (oper_callF rfl rfl) (ih _ _ hzz37 _ _ (ArgsC.eq .nil)) rfl ?_
            exact wpO.nil ⟨_, _, rfl, fun _ ht => by cases ht; exact ⟨rfl, .refl _⟩⟩
          refine .cons rfl rfl rfl (.step ?_) ?_
          ·
            refine wpO.rowIdxP (enc := encTree) H36 rfl (i := 1) rfl rfl rfl hzz38 el26 as28 ((Tree.len _).trans sz28.symm) rfl ?_
            exact wpO.nil ⟨_, _, rfl, fun _ ht => by cases ht; exact ⟨rfl, .refl _⟩⟩
          exact .nil
        refine wpO.rowStoreP (enc := encTree) (z' := z37) (cv := [(.str z37.Tag), (.str z37.Key), (.str z37.Text), (.sl ((z37.Attrs).map encAttr) false), (.sl ((z37.Kids).map encTree) false)]) H36 rfl (i := 1) rfl hzz38 rfl rfl (Tree.cellsA _) (.refl _) sz28 rfl as28 (by rw [Tree.len]; rfl) (by rw [Tree.cells, Tree.cells]; rfl) (Tree.flat _) (fun S41 H42 => ?_)
        refine wpO.nil ⟨_, .any, _, rfl, (fun _ ht => by cases ht), [some (.ptr b2 0 4), some v12, some (.d (.int .i64 x28)), some (.d (encTree z31)), some (.d (encTree z37)), some (rowPtr v12 (Int.toNat x28) 0), some .any], (.old (.refl _) (.old (.refl _) (.old (.refl _) (.old (.refl _) (.old (.refl _) (.old (.refl _) (.new .nil))))))), (fun _ ht => by cases ht), ?_⟩
        refine ⟨[], by kernel_rfl, ?_, _, rfl, ?_⟩
        ·
          exact .nil
        refine WpC.region (objR1 E) rfl ?_
        refine wpO.val rfl (oper_bin rfl rfl binD_add) rfl ?_
        refine wpO.val rfl (oper_move rfl) rfl ?_
        refine wpO.nil ?_
        exact ⟨⟨(setI x27 x28 z37), (IntKind.wrap .i64 (x28 + 1))⟩, _, _, S41, .refl _ _, .refl _, (WeakE.cons rfl (.refl _) (WeakE.cons rfl (.refl _) (WeakE.cons rfl (.refl _) (WeakE.cons rfl (.refl _) (WeakE.cons rfl (.refl _) WeakE.nil))))), H42.sel [1, 2, 3] (by decide) rfl, h⟩
      ·
        replace h := if_f hb30 h
        refine WpC.exit ?_
        refine WpC.seq ?_
        refine WpC.region (objR1 E) rfl ?_
        refine wpO.val rfl (oper_load H26 (i := 2) rfl rfl (part_agg ag28 sz28 rfl)) rfl ?_
        refine wpO.store H26 (i := 1) rfl rfl rfl rfl (mkAgg_cells _) rfl sz28 (mkAgg_plain _) as28 rfl rfl rfl (fun S43 H44 => ?_)
        refine wpO.nil ?_
        obtain ⟨SF1, HF1, hgF1⟩ := H44.freeze (objR1 E).toObjOk (i := 0) (l' := [.box b5 [(.d (.str a1.Tag)), (.d (.str a1.Key)), (.d (.str a1.Text)), (.d (.sl ((z8).map encAttr) false)), (.d (.sl ((x27).map encTree) false))], .box b2 [(.d (.str a1.Tag)), (.d (.str a1.Key)), (.d (.str a1.Text)), (.d (.sl ((z8).map encAttr) false)), (.d (.sl ((x27).map encTree) false))]]) rfl (.box (.cons (.same _) (.cons (.same _) (.cons (.same _) (.cons (.same _) (.cons .it .nil))))) (.box (.cons (.same _) (.cons (.same _) (.cons (.same _) (.cons (.same _) (.cons .it .nil))))) .nil))
        refine WpC.ghost (hgF1 _ _ [(1, (.ptr b2 0 0)), (2, (.ptr b5 0 0)), (14, (.d (.sl ((x27).map encTree) false))), (15, (.d (.int .i64 ((z11).length : Int)))), (16, (.d (.int .i64 x28))), (17, (.d (.bool (decide (x28 < ((z11).length : Int))))))] (.cons rfl (.refl _) (.cons rfl (.refl _) (.it rfl (.cons rfl (.refl _) (.cons rfl (.refl _) (.cons rfl (.refl _) .nil))))))) ?_
        have hr := Option.some.inj h
        subst hr
        exact WpC.ret ⟨_, resultsE_cell HF1 (i := 0) rfl rfl rfl (part_agg ag28 sz28 rfl), rfl, end1 (ArgsC.less_agg (d := encTree (Tree.mk a1.Tag a1.Key a1.Text z8 x27)) (CellsC.eq rfl (CellsC.eq rfl (CellsC.eq rfl (CellsC.eq rfl (CellsC.eq rfl .nil))))) ((Tree.eq _).trans rfl))⟩
set_option maxRecDepth 20000 in
set_option maxHeartbeats 4000000 in
theorem shape_Copy_okN : ∀ (n : Nat) (a1 : Tree) (r : Tree), shape_Copy n a1 = some r → SpecN R cfg.P 10 [(encTree a1)] (fun v l => ∃ w4, v = Ev.mkAgg [.d (.str r.Tag), .d (.str r.Key), .d (.str r.Text), .d (.sl ((r.Attrs).map encAttr) false), w4] ∧ l = [.row 5 w4 ((r.Kids).map encTree)])
  | 0, a1, r, h => by simp [shape_Copy] at h
  | n + 1, a1, r, h => by
    have ih := shape_Copy_ok E n
    unfold shape_Copy at h
    refine SpecN.of_wp (C := cfgR1) Tryd.func10 rfl nm10 rfl (fun S0 wf0 => ?_)
    have H0 : Has S0 S0 [] := Has.start wf0
    refine WpC.seq ?_
    refine WpC.region (objR1 E) rfl ?_
    refine wpO.box H0 rfl rfl rfl (Tree.cellsA _) rfl (fun b2 S3 H4 => ?_)
    refine wpO.alloc H4 rfl ob28R1 zo28 rfl rfl (fun b5 S6 H7 => ?_)
    refine wpO.nil ?_
    refine WpC.seq ?_
    refine WpC.region (objR1 E) rfl ?_
    refine wpO.val rfl (oper_fieldAddr rfl fo28_3 nz25 rfl) rfl ?_
    refine wpO.val rfl (oper_load H7 (i := 1) rfl rfl (part_one ag25 rfl)) rfl ?_
    obtain ⟨z8, hzz8, h⟩ := bind_some h
    refine wpO.ret rfl (oper_callF rfl rfl) (slices_Clone__api_Attr_api_Attr__ok E _ _ _ hzz8 _ _ (ArgsC.eq .nil)) rfl ?_
    refine wpO.val rfl (oper_fieldAddr rfl fo28_3 nz25 rfl) rfl ?_
    refine wpO.store H7 (i := 1) rfl rfl rfl rfl rfl rfl sz25 rfl as25 rfl rfl rfl (fun S9 H10 => ?_)
    refine wpO.nil ?_
    refine WpC.seq ?_
    refine WpC.region (objR1 E) rfl ?_
    refine wpO.val rfl (oper_fieldAddr rfl fo28_4 nz26 rfl) rfl ?_
    refine wpO.val rfl (oper_load H10 (i := 1) rfl rfl (part_one ag26 rfl)) rfl ?_
    obtain ⟨z11, hzz11, h⟩ := bind_some h
    refine wpO.retN H10 rfl (oper_callF rfl rfl) (slices_Clone__api_Tree_api_Tree__okN E n _ _ hzz11) (ArgsC.eq .nil) rfl ?_
    rintro v12 S13 _ rfl H14
    refine wpO.val rfl (oper_fieldAddr rfl fo28_4 nz26 rfl) rfl ?_
    refine wpO.store H14 (i := 2) rfl rfl rfl rfl (row_plain (H14.at (i := 0) rfl)).2 rfl sz26 (row_plain (H14.at (i := 0) rfl)).1 as26 rfl rfl rfl (fun S17 H18 => ?_)
    refine wpO.nil ?_
    refine WpC.seq ?_
    refine WpC.seq ?_
    refine WpC.region (objR1 E) rfl ?_
    refine wpO.val rfl (oper_fieldAddr rfl fo28_4 nz26 rfl) rfl ?_
    refine wpO.val rfl (oper_load H18 (i := 2) rfl rfl (part_one ag26 rfl)) rfl ?_
    refine wpO.val rfl (oper_lenR H18 (i := 0) rfl rfl es26) rfl ?_
    refine wpO.val rfl (oper_move rfl) rfl ?_
    refine wpO.nil ?_
    refine WpC.block ?_
    refine WpL.start (B := S0) (α := (List Tree) × Int) (fun k a => shape_Copy_l29 (shape_Copy n) a1 z8 z11 k a.1 a.2 = some r) (fun a => [(1, (.ptr b2 0 0)), (2, (.ptr b5 0 0)), (14, v12), (15, (.d (.int .i64 ((z11).length : Int)))), (16, (.d (.int .i64 a.2)))]) (fun a => [.row 5 v12 ((a.1).map encTree), .box b5 [(.d (.str [])), (.d (.str [])), (.d (.str [])), (.d .nils), (.d .nils)], .box b2 [(.d (.str a1.Tag)), (.d (.str a1.Key)), (.d (.str a1.Text)), (.d (.sl ((z8).map encAttr) false)), v12]]) ?_ ?_ n ⟨⟨z11, 0⟩, _, _, S17, .refl _ _, .refl _, (WeakE.cons rfl (.refl _) (WeakE.cons rfl (.refl _) (WeakE.cons rfl (.refl _) (WeakE.cons rfl (.refl _) (WeakE.cons rfl (.refl _) WeakE.nil))))), H18.sel [0, 1, 2] (by decide) rfl, h⟩
    · intro a h; simp [shape_Copy_l29] at h
    ·
      intro k29 a S25 H26 h
      obtain ⟨x27, x28⟩ := a
      replace h : shape_Copy_l29 (shape_Copy n) a1 z8 z11 (k29 + 1) x27 x28 = some r := h
      replace H26 : Has S0 S25 [.row 5 v12 ((x27).map encTree), .box b5 [(.d (.str [])), (.d (.str [])), (.d (.str [])), (.d .nils), (.d .nils)], .box b2 [(.d (.str a1.Tag)), (.d (.str a1.Key)), (.d (.str a1.Text)), (.d (.sl ((z8).map encAttr) false)), v12]] := H26
      unfold shape_Copy_l29 at h
      refine WpC.seq ?_
      refine WpC.region (objR1 E) rfl ?_
      refine wpO.val rfl (oper_bin rfl rfl binD_lss) rfl ?_
      refine wpO.nil ?_
      refine WpC.seq ?_
      refine WpC.cond rfl (fun hb30 => ?_) (fun hb30 => ?_)
      ·
        replace h := if_t hb30 h
        refine WpC.skip ?_
        refine WpC.seq ?_
        refine WpC.block ?_
        refine WpC.seq ?_
        refine WpC.region (objR1 E) rfl ?_
        refine wpO.val rfl (oper_move rfl) rfl ?_
        obtain ⟨z31, hzz31, h⟩ := bind_some h
        refine wpO.rowIdxP (enc := encTree) H26 rfl (i := 0) rfl rfl rfl hzz31 el26 as28 ((Tree.len _).trans sz28.symm) rfl ?_
        refine wpO.rowLoadP H26 rfl (i := 0) rfl hzz31 rfl (Tree.partW ag28 sz28) rfl ?_
        refine wpO.alloc H26 rfl ob28R1 zo28 rfl rfl (fun b32 S33 H34 => ?_)
        refine wpO.val rfl (oper_assign rfl) rfl ?_
        refine wpO.store H34 (i := 0) rfl rfl rfl rfl (Tree.cellsA _) rfl sz28 rfl as28 rfl rfl rfl (fun S35 H36 => ?_)
        refine wpO.nil ?_
        obtain ⟨z37, hzz37, h⟩ := bind_some h
        obtain ⟨z38, hzz38, h⟩ := bind_some h
        refine WpC.drawP (objR1 E) hmix [[(1, none)], [(21, some 0)], [(3, none)], [(4, none)], [(24, some 3)], [(22, some 1), (23, some 2)], [(25, some 4), (26, some 5)]] [(1, none), (2, none), (14, none), (15, none), (16, none)] (by kernel_rfl) [6] (by decide) [some (.ptr b2 0 4), some v12, some (.d (.int .i64 x28)), some (.d (encTree z31)), some (.d (encTree z37)), some (rowPtr v12 (Int.toNat x28) 0), none] ?_
        refine ⟨[0, 1, 2, 3, 4, 5], by kernel_rfl, ?_, _, _, rfl, rfl, .step ?_⟩
        ·
          refine .cons rfl rfl rfl (.step ?_) ?_
          ·
            refine wpO.val rfl (oper_fieldAddr rfl fo28_4 nz26 rfl) rfl ?_
            exact wpO.nil ⟨_, _, rfl, fun _ ht => by cases ht; exact ⟨rfl, .refl _⟩⟩
          refine .cons rfl rfl rfl (.step ?_) ?_
          ·
            refine wpO.val rfl (oper_load H36 (i := 3) rfl rfl (part_one ag26 rfl)) rfl ?_
            exact wpO.nil ⟨_, _, rfl, fun _ ht => by cases ht; exact ⟨rfl, .refl _⟩⟩
          refine .cons rfl rfl rfl (.step ?_) ?_
          ·
            refine wpO.val rfl (oper_move rfl) rfl ?_
            exact wpO.nil ⟨_, _, rfl, fun _ ht => by cases ht; exact ⟨rfl, .refl _⟩⟩
          refine .cons rfl rfl rfl (.step ?_) ?_
          ·
            refine wpO.val rfl (oper_load H36 (i := 0) rfl rfl (part_agg ag28 sz28 rfl)) rfl ?_
            refine wpO.less (Less.agg' (d := encTree z31) (CellsC.eq rfl (CellsC.eq rfl (CellsC.eq rfl (CellsC.eq rfl (CellsC.eq rfl .nil))))) ((Tree.eq _).trans rfl)) ?_
            exact wpO.nil ⟨_, _, rfl, fun _ ht => by cases ht; exact ⟨rfl, .refl _⟩⟩
          refine .cons rfl rfl rfl (.step ?_) ?_
          ·
            refine wpO.ret rfl (oper_callF rfl rfl) (ih _ _ hzz37 _ _ (ArgsC.eq .nil)) rfl ?_
            exact wpO.nil ⟨_, _, rfl, fun _ ht => by cases ht; exact ⟨rfl, .refl _⟩⟩
          refine .cons rfl rfl rfl (.step ?_) ?_
          ·
            refine wpO.rowIdxP (enc := encTree) H36 rfl (i := 1) rfl rfl rfl hzz38 el26 as28 ((Tree.len _).trans sz28.symm) rfl ?_
            exact wpO.nil ⟨_, _, rfl, fun _ ht => by cases ht; exact ⟨rfl, .refl _⟩⟩
          exact .nil
        refine wpO.rowStoreP (enc := encTree) (z' := z37) (cv := [(.str z37.Tag), (.str z37.Key), (.str z37.Text), (.sl ((z37.Attrs).map encAttr) false), (.sl ((z37.Kids).map encTree) false)]) H36 rfl (i := 1) rfl hzz38 rfl rfl (Tree.cellsA _) (.refl _) sz28 rfl as28 (by rw [Tree.len]; rfl) (by rw [Tree.cells, Tree.cells]; rfl) (Tree.flat _) (fun S41 H42 => ?_)
        refine wpO.nil ⟨_, .any, _, rfl, (fun _ ht => by cases ht), [some (.ptr b2 0 4), some v12, some (.d (.int .i64 x28)), some (.d (encTree z31)), some (.d (encTree z37)), some (rowPtr v12 (Int.toNat x28) 0), some .any], (.old (.refl _) (.old (.refl _) (.old (.refl _) (.old (.refl _) (.old (.refl _) (.old (.refl _) (.new .nil))))))), (fun _ ht => by cases ht), ?_⟩
        refine ⟨[], by kernel_rfl, ?_, _, rfl, ?_⟩
        ·
          exact .nil
        refine WpC.region (objR1 E) rfl ?_
        refine wpO.val rfl (oper_bin rfl rfl binD_add) rfl ?_
        refine wpO.val rfl (oper_move rfl) rfl ?_
        refine wpO.nil ?_
        exact ⟨⟨(setI x27 x28 z37), (IntKind.wrap .i64 (x28 + 1))⟩, _, _, S41, .refl _ _, .refl _, (WeakE.cons rfl (.refl _) (WeakE.cons rfl (.refl _) (WeakE.cons rfl (.refl _) (WeakE.cons rfl (.refl _) (WeakE.cons rfl (.refl _) WeakE.nil))))), H42.sel [1, 2, 3] (by decide) rfl, h⟩
      ·
        replace h := if_f hb30 h
        refine WpC.exit ?_
        refine WpC.seq ?_
        refine WpC.region (objR1 E) rfl ?_
        refine wpO.val rfl (oper_load H26 (i := 2) rfl rfl (part_agg ag28 sz28 rfl)) rfl ?_
        refine wpO.store H26 (i := 1) rfl rfl rfl rfl (mkAgg_cells _) rfl sz28 (mkAgg_plain _) as28 rfl rfl rfl (fun S43 H44 => ?_)
        refine wpO.nil ?_
        have hr := Option.some.inj h
        subst hr
        exact WpC.ret ⟨_, resultsE_cell H44 (i := 1) rfl rfl rfl (part_agg ag28 sz28 rfl), rfl, _, _, .refl _, ⟨v12, rfl, rfl⟩, H44.sel [0] (by decide) rfl⟩
set_option maxRecDepth 20000 in
set_option maxHeartbeats 4000000 in
theorem shape_Count_ok : ∀ (n : Nat) (a1 : Tree) (r : Int), shape_Count n a1 = some r → SpecC R cfg.P 14 [(encTree a1)] (.d (.int .i64 r))
  | 0, a1, r, h => by simp [shape_Count] at h
  | n + 1, a1, r, h => by
    have ih := shape_Count_ok n
    unfold shape_Count at h
    refine SpecC.of_wp E.obj.toObjOk (C := cfg) Tryd.func14 rfl nm14 rfl ?_
    have H0 : Has pureSt pureSt [] := Has.pure
    refine WpC.seq ?_
    refine WpC.region E.obj rfl ?_
    refine wpO.box H0 rfl rfl rfl (Tree.cellsA _) rfl (fun b2 S3 H4 => ?_)
    refine wpO.val rfl (oper_assign rfl) rfl ?_
    refine wpO.nil ?_
    refine WpC.seq ?_
    refine WpC.region E.obj rfl ?_
    refine wpO.val rfl (oper_assign rfl) rfl ?_
    refine wpO.nil ?_
    refine WpC.seq ?_
    refine WpC.seq ?_
    refine WpC.region E.obj rfl ?_
    refine wpO.val rfl (oper_fieldAddr rfl fo28_4 nz26 rfl) rfl ?_
    refine wpO.val rfl (oper_load H4 (i := 0) rfl rfl (part_one ag26 rfl)) rfl ?_
    refine wpO.val rfl (oper_lenL rfl es26) rfl ?_
    refine wpO.val rfl (oper_move rfl) rfl ?_
    refine wpO.nil ?_
    refine WpC.block ?_
    refine WpL.start (B := pureSt) (α := Int × Int) (fun k a => shape_Count_l15 (shape_Count n) a1 k a.1 a.2 = some r) (fun a => [(3, (.d (.int .i64 a.1))), (7, (.d (.sl ((a1.Kids).map encTree) false))), (8, (.d (.int .i64 ((a1.Kids).length : Int)))), (9, (.d (.int .i64 a.2)))]) (fun a => []) ?_ ?_ n ⟨⟨1, 0⟩, _, _, S3, .refl _ _, .refl _, (WeakE.cons rfl (.refl _) (WeakE.cons rfl (.refl _) (WeakE.cons rfl (.refl _) (WeakE.cons rfl (.refl _) WeakE.nil)))), H4.sel [] (by decide) rfl, h⟩
    · intro a h; simp [shape_Count_l15] at h
    ·
      intro k15 a S11 H12 h
      obtain ⟨x13, x14⟩ := a
      replace h : shape_Count_l15 (shape_Count n) a1 (k15 + 1) x13 x14 = some r := h
      replace H12 : Has pureSt S11 [] := H12
      unfold shape_Count_l15 at h
      refine WpC.seq ?_
      refine WpC.region E.obj rfl ?_
      refine wpO.val rfl (oper_bin rfl rfl binD_lss) rfl ?_
      refine wpO.nil ?_
      refine WpC.seq ?_
      refine WpC.cond rfl (fun hb16 => ?_) (fun hb16 => ?_)
      ·
        replace h := if_t hb16 h
        refine WpC.skip ?_
        refine WpC.seq ?_
        refine WpC.block ?_
        refine WpC.seq ?_
        refine WpC.region E.obj rfl ?_
        obtain ⟨z17, hzz17, h⟩ := bind_some h
        refine wpO.val rfl (oper_idx rfl rfl (idxAddr (enc := encTree) hzz17 el26 as28 ((Tree.len _).trans sz28.symm))) rfl ?_
        refine wpO.val rfl (oper_loadE rfl (Tree.partW ag28 sz28)) rfl ?_
        refine wpO.alloc H12 rfl ob28 zo28 rfl rfl (fun b18 S19 H20 => ?_)
        refine wpO.store H20 (i := 0) rfl rfl rfl rfl (Tree.cellsA _) rfl sz28 rfl as28 rfl rfl rfl (fun S21 H22 => ?_)
        refine wpO.nil ?_
        refine WpC.region E.obj rfl ?_
        refine wpO.val rfl (oper_move rfl) rfl ?_
        refine wpO.val rfl (oper_load H22 (i := 0) rfl rfl (part_agg ag28 sz28 rfl)) rfl ?_
        refine wpO.less (Less.agg' (d := encTree z17) (CellsC.eq rfl (CellsC.eq rfl (CellsC.eq rfl (CellsC.eq rfl (CellsC.eq rfl .nil))))) ((Tree.eq _).trans rfl)) ?_
        obtain ⟨z23, hzz23, h⟩ := bind_some h
        refine wpO.ret rfl (oper_callF rfl rfl) (ih _ _ hzz23 _ _ (ArgsC.eq .nil)) rfl ?_
        refine wpO.val rfl (oper_bin rfl rfl binD_add) rfl ?_
        refine wpO.val rfl (oper_assign rfl) rfl ?_
        refine wpO.nil ?_
        refine WpC.region E.obj rfl ?_
        refine wpO.val rfl (oper_bin rfl rfl binD_add) rfl ?_
        refine wpO.val rfl (oper_move rfl) rfl ?_
        refine wpO.nil ?_
        exact ⟨⟨(IntKind.wrap .i64 (x13 + z23)), (IntKind.wrap .i64 (x14 + 1))⟩, _, _, S21, .refl _ _, .refl _, (WeakE.cons rfl (.refl _) (WeakE.cons rfl (.refl _) (WeakE.cons rfl (.refl _) (WeakE.cons rfl (.refl _) WeakE.nil)))), H22.sel [] (by decide) rfl, h⟩
      ·
        replace h := if_f hb16 h
        refine WpC.exit ?_
        refine WpC.seq ?_
        refine WpC.region E.obj rfl ?_
        refine wpO.val rfl (oper_move rfl) rfl ?_
        refine wpO.val rfl (oper_assign rfl) rfl ?_
        refine wpO.nil ?_
        have hr := Option.some.inj h
        subst hr
        exact WpC.ret ⟨_, rfl, rfl, end1 (ArgsC.eq .nil)⟩
set_option maxRecDepth 20000 in
set_option maxHeartbeats 4000000 in
theorem shape_Deep_ok : ∀ (n : Nat) (a1 : Tree) (r : Int), shape_Deep n a1 = some r → SpecC R cfg.P 15 [(encTree a1)] (.d (.int .i64 r))
  | 0, a1, r, h => by simp [shape_Deep] at h
  | n + 1, a1, r, h => by
    have ih := shape_Deep_ok n
    unfold shape_Deep at h
    refine SpecC.of_wp E.obj.toObjOk (C := cfg) Tryd.func15 rfl nm15 rfl ?_
    have H0 : Has pureSt pureSt [] := Has.pure
    refine WpC.seq ?_
    refine WpC.region E.obj rfl ?_
    refine wpO.box H0 rfl rfl rfl (Tree.cellsA _) rfl (fun b2 S3 H4 => ?_)
    refine wpO.val rfl (oper_assign rfl) rfl ?_
    refine wpO.nil ?_
    refine WpC.seq ?_
    refine WpC.region E.obj rfl ?_
    refine wpO.val rfl (oper_assign rfl) rfl ?_
    refine wpO.nil ?_
    refine WpC.seq ?_
    refine WpC.seq ?_
    refine WpC.region E.obj rfl ?_
    refine wpO.val rfl (oper_fieldAddr rfl fo28_4 nz26 rfl) rfl ?_
    refine wpO.val rfl (oper_load H4 (i := 0) rfl rfl (part_one ag26 rfl)) rfl ?_
    refine wpO.val rfl (oper_lenL rfl es26) rfl ?_
    refine wpO.val rfl (oper_move rfl) rfl ?_
    refine wpO.nil ?_
    refine WpC.block ?_
    refine WpL.start (B := pureSt) (α := Int × Int) (fun k a => shape_Deep_l15 (shape_Deep n) a1 k a.1 a.2 = some r) (fun a => [(3, (.d (.int .i64 a.1))), (7, (.d (.sl ((a1.Kids).map encTree) false))), (8, (.d (.int .i64 ((a1.Kids).length : Int)))), (9, (.d (.int .i64 a.2)))]) (fun a => []) ?_ ?_ n ⟨⟨0, 0⟩, _, _, S3, .refl _ _, .refl _, (WeakE.cons rfl (.refl _) (WeakE.cons rfl (.refl _) (WeakE.cons rfl (.refl _) (WeakE.cons rfl (.refl _) WeakE.nil)))), H4.sel [] (by decide) rfl, h⟩
    · intro a h; simp [shape_Deep_l15] at h
    ·
      intro k15 a S11 H12 h
      obtain ⟨x13, x14⟩ := a
      replace h : shape_Deep_l15 (shape_Deep n) a1 (k15 + 1) x13 x14 = some r := h
      replace H12 : Has pureSt S11 [] := H12
      unfold shape_Deep_l15 at h
      refine WpC.seq ?_
      refine WpC.region E.obj rfl ?_
      refine wpO.val rfl (oper_bin rfl rfl binD_lss) rfl ?_
      refine wpO.nil ?_
      refine WpC.seq ?_
      refine WpC.cond rfl (fun hb16 => ?_) (fun hb16 => ?_)
      ·
        replace h := if_t hb16 h
        refine WpC.skip ?_
        refine WpC.seq ?_
        refine WpC.block ?_
        refine WpC.seq ?_
        refine WpC.region E.obj rfl ?_
        obtain ⟨z17, hzz17, h⟩ := bind_some h
        refine wpO.val rfl (oper_idx rfl rfl (idxAddr (enc := encTree) hzz17 el26 as28 ((Tree.len _).trans sz28.symm))) rfl ?_
        refine wpO.val rfl (oper_loadE rfl (Tree.partW ag28 sz28)) rfl ?_
        refine wpO.alloc H12 rfl ob28 zo28 rfl rfl (fun b18 S19 H20 => ?_)
        refine wpO.store H20 (i := 0) rfl rfl rfl rfl (Tree.cellsA _) rfl sz28 rfl as28 rfl rfl rfl (fun S21 H22 => ?_)
        refine wpO.nil ?_
        refine WpC.region E.obj rfl ?_
        refine wpO.val rfl (oper_move rfl) rfl ?_
        refine wpO.val rfl (oper_load H22 (i := 0) rfl rfl (part_agg ag28 sz28 rfl)) rfl ?_
        refine wpO.less (Less.agg' (d := encTree z17) (CellsC.eq rfl (CellsC.eq rfl (CellsC.eq rfl (CellsC.eq rfl (CellsC.eq rfl .nil))))) ((Tree.eq _).trans rfl)) ?_
        obtain ⟨z23, hzz23, h⟩ := bind_some h
        refine wpO.ret rfl (oper_callF rfl rfl) (ih _ _ hzz23 _ _ (ArgsC.eq .nil)) rfl ?_
        refine wpO.val rfl (oper_max rfl rfl) rfl ?_
        refine wpO.val rfl (oper_assign rfl) rfl ?_
        refine wpO.nil ?_
        refine WpC.region E.obj rfl ?_
        refine wpO.val rfl (oper_bin rfl rfl binD_add) rfl ?_
        refine wpO.val rfl (oper_move rfl) rfl ?_
        refine wpO.nil ?_
        exact ⟨⟨(maxI x13 z23), (IntKind.wrap .i64 (x14 + 1))⟩, _, _, S21, .refl _ _, .refl _, (WeakE.cons rfl (.refl _) (WeakE.cons rfl (.refl _) (WeakE.cons rfl (.refl _) (WeakE.cons rfl (.refl _) WeakE.nil)))), H22.sel [] (by decide) rfl, h⟩
      ·
        replace h := if_f hb16 h
        refine WpC.exit ?_
        refine WpC.seq ?_
        refine WpC.region E.obj rfl ?_
        refine wpO.val rfl (oper_move rfl) rfl ?_
        refine wpO.val rfl (oper_bin rfl rfl binD_add) rfl ?_
        refine wpO.val rfl (oper_assign rfl) rfl ?_
        refine wpO.nil ?_
        have hr := Option.some.inj h
        subst hr
        exact WpC.ret ⟨_, rfl, rfl, end1 (ArgsC.eq .nil)⟩
set_option maxRecDepth 20000 in
set_option maxHeartbeats 4000000 in
theorem shape_element_1_ok (n : Nat) (a1 : Attr) (a2 : Attr) (S0 : St) (b3 : Nat) (hb4 : S0.H.get b3 = some (.cells 0 [(.d (.str a2.Name)), (.d (.str a2.Value))])) (r : Bool) (h : shape_element_1 n a1 a2 = some r) : SpecF R cfg.P 36 [.d (encAttr a1), .ptr b3 0 0] S0 (fun o => o = (none, .d (.bool r), S0)) := by
  unfold shape_element_1 at h
  refine SpecS.of_wp (C := cfg) Tryd.func36 rfl nm36 rfl (fun wf0 => ?_)
  have H0 : Has S0 S0 [] := Has.start wf0
  refine WpC.seq ?_
  refine WpC.region E.obj rfl ?_
  refine wpO.box H0 rfl rfl rfl (Attr.cellsA _) rfl (fun b5 S6 H7 => ?_)
  refine wpO.val rfl (oper_assign rfl) rfl ?_
  refine wpO.nil ?_
  refine WpC.seq ?_
  refine WpC.region E.obj rfl ?_
  refine wpO.val rfl (oper_fieldAddr rfl fo36_0 nz9 rfl) rfl ?_
  refine wpO.val rfl (oper_load H7 (i := 0) rfl rfl (part_one ag9 rfl)) rfl ?_
  refine wpO.val rfl (oper_fieldAddr rfl fo36_0 nz9 rfl) rfl ?_
  refine wpO.val rfl (oper_loadB H7 hb4 rfl (part_one ag9 rfl)) rfl ?_
  refine wpO.val rfl (oper_bin rfl rfl binD_seql) rfl ?_
  refine wpO.val rfl (oper_assign rfl) rfl ?_
  refine wpO.nil ?_
  have hr := Option.some.inj h
  subst hr
  exact WpC.ret ⟨_, rfl, rfl, H7.keeps, end1 (ArgsC.eq .nil)⟩
set_option maxRecDepth 20000 in
set_option maxHeartbeats 4000000 in
theorem slices_IndexFunc__api_Attr_api_Attr__ok (n : Nat) (S0 : St) (a1 : (List Attr)) (fg3 : Nat) (fc4 : List AV) (p2 : Attr → Option Bool) (hpp2 : ∀ S', Keeps S0 S' → S'.Wf → ∀ (y0 : Attr) (r : Bool), p2 y0 = some r → SpecF R cfg.P fg3 ([.d (encAttr y0)] ++ fc4) S' (fun o => o = (none, .d (.bool r), S'))) (r : Int) (h : slices_IndexFunc__api_Attr_api_Attr_ n a1 p2 = some r) : SpecF R cfg.P 46 [.d (.sl ((a1).map encAttr) false), .fn fg3 fc4] S0 (fun o => o = (none, .d (.int .i64 r), S0)) := by
  unfold slices_IndexFunc__api_Attr_api_Attr_ at h
  refine SpecS.of_wp (C := cfg) Tryd.func46 rfl nm46 rfl (fun wf0 => ?_)
  have H0 : Has S0 S0 [] := Has.start wf0
  refine WpC.seq ?_
  refine WpC.region E.obj rfl ?_
  refine wpO.val rfl (oper_assign rfl) rfl ?_
  refine wpO.nil ?_
  refine WpC.seq ?_
  refine WpC.seq ?_
  refine WpC.region E.obj rfl ?_
  refine wpO.val rfl (oper_move rfl) rfl ?_
  refine wpO.val rfl (oper_lenL rfl es25) rfl ?_
  refine wpO.val rfl (oper_move rfl) rfl ?_
  refine wpO.nil ?_
  refine WpC.block ?_
  refine WpL.start (B := S0) (α := Int) (fun k a => slices_IndexFunc__api_Attr_api_Attr__l13 a1 p2 k a = some r) (fun a => [(0, (.d (.sl ((a1).map encAttr) false))), (1, (.fn fg3 fc4)), (7, (.d (.int .i64 ((a1).length : Int)))), (8, (.d (.int .i64 a)))]) (fun a => []) ?_ ?_ n ⟨0, _, _, S0, .refl _ _, .refl _, (WeakE.cons rfl (.refl _) (WeakE.cons rfl (.refl _) (WeakE.cons rfl (.refl _) (WeakE.cons rfl (.refl _) WeakE.nil)))), H0.sel [] (by decide) rfl, h⟩
  · intro a h; simp [slices_IndexFunc__api_Attr_api_Attr__l13] at h
  ·
    intro k13 x12 S10 H11 h
    replace h : slices_IndexFunc__api_Attr_api_Attr__l13 a1 p2 (k13 + 1) x12 = some r := h
    replace H11 : Has S0 S10 [] := H11
    unfold slices_IndexFunc__api_Attr_api_Attr__l13 at h
    refine WpC.seq ?_
    refine WpC.region E.obj rfl ?_
    refine wpO.val rfl (oper_bin rfl rfl binD_lss) rfl ?_
    refine wpO.nil ?_
    refine WpC.seq ?_
    refine WpC.cond rfl (fun hb14 => ?_) (fun hb14 => ?_)
    ·
      replace h := if_t hb14 h
      refine WpC.skip ?_
      refine WpC.seq ?_
      refine WpC.block ?_
      refine WpC.seq ?_
      refine WpC.region E.obj rfl ?_
      refine wpO.val rfl (oper_move rfl) rfl ?_
      refine wpO.val rfl (oper_assign rfl) rfl ?_
      refine wpO.nil ?_
      refine WpC.seq ?_
      refine WpC.region E.obj rfl ?_
      refine wpO.val rfl (oper_move rfl) rfl ?_
      refine wpO.val rfl (oper_move rfl) rfl ?_
      refine wpO.val rfl (oper_move rfl) rfl ?_
      obtain ⟨z15, hzz15, h⟩ := bind_some h
      refine wpO.val rfl (oper_idx rfl rfl (idxAddr (enc := encAttr) hzz15 el25 as36 ((Attr.len _).trans sz36.symm))) rfl ?_
      refine wpO.val rfl (oper_loadE rfl (Attr.partW ag36 sz36)) rfl ?_
      obtain ⟨z16, hzz16, h⟩ := bind_some h
      refine wpO.ret rfl (oper_callV rfl rfl) (hpp2 _ H11.keeps H11.wf _ _ hzz16) rfl ?_
      refine wpO.nil ?_
      refine WpC.cond rfl (fun hb17 => ?_) (fun hb17 => ?_)
      ·
        replace h := if_t hb17 h
        refine WpC.seq ?_
        refine WpC.region E.obj rfl ?_
        refine wpO.val rfl (oper_move rfl) rfl ?_
        refine wpO.val rfl (oper_assign rfl) rfl ?_
        refine wpO.nil ?_
        have hr := Option.some.inj h
        subst hr
        exact WpC.ret ⟨_, rfl, rfl, H11.keeps, end1 (ArgsC.eq .nil)⟩
      ·
        replace h := if_f hb17 h
        refine WpC.skip ?_
        refine WpC.region E.obj rfl ?_
        refine wpO.val rfl (oper_bin rfl rfl binD_add) rfl ?_
        refine wpO.val rfl (oper_move rfl) rfl ?_
        refine wpO.nil ?_
        exact ⟨(IntKind.wrap .i64 (x12 + 1)), _, _, S10, .refl _ _, .refl _, (WeakE.cons rfl (.refl _) (WeakE.cons rfl (.refl _) (WeakE.cons rfl (.refl _) (WeakE.cons rfl (.refl _) WeakE.nil)))), H11.sel [] (by decide) rfl, h⟩
    ·
      replace h := if_f hb14 h
      refine WpC.exit ?_
      refine WpC.seq ?_
      refine WpC.region E.obj rfl ?_
      refine wpO.val rfl (oper_assign rfl) rfl ?_
      refine wpO.nil ?_
      have hr := Option.some.inj h
      subst hr
      exact WpC.ret ⟨_, rfl, rfl, H11.keeps, end1 (ArgsC.eq .nil)⟩
set_option maxRecDepth 20000 in
set_option maxHeartbeats 4000000 in
theorem slices_ContainsFunc__api_Attr_api_Attr__ok (n : Nat) (S0 : St) (a1 : (List Attr)) (fg3 : Nat) (fc4 : List AV) (p2 : Attr → Option Bool) (hpp2 : ∀ S', Keeps S0 S' → S'.Wf → ∀ (y0 : Attr) (r : Bool), p2 y0 = some r → SpecF R cfg.P fg3 ([.d (encAttr y0)] ++ fc4) S' (fun o => o = (none, .d (.bool r), S'))) (r : Bool) (h : slices_ContainsFunc__api_Attr_api_Attr_ n a1 p2 = some r) : SpecF R cfg.P 37 [.d (.sl ((a1).map encAttr) false), .fn fg3 fc4] S0 (fun o => o = (none, .d (.bool r), S0)) := by
  unfold slices_ContainsFunc__api_Attr_api_Attr_ at h
  refine SpecS.of_wp (C := cfg) Tryd.func37 rfl nm37 rfl (fun wf0 => ?_)
  have H0 : Has S0 S0 [] := Has.start wf0
  refine WpC.seq ?_
  refine WpC.region E.obj rfl ?_
  refine wpO.val rfl (oper_assign rfl) rfl ?_
  refine wpO.nil ?_
  refine WpC.seq ?_
  refine WpC.region E.obj rfl ?_
  refine wpO.val rfl (oper_move rfl) rfl ?_
  refine wpO.val rfl (oper_move rfl) rfl ?_
  obtain ⟨z6, hzz6, h⟩ := bind_some h
  refine wpO.ret rfl (oper_callF rfl rfl) (SpecF.argsL (slices_IndexFunc__api_Attr_api_Attr__ok E n S0 _ _ _ p2 (fun S' hk hw y5 r hr => hpp2 S' (H0.keeps.trans hk) hw y5 r hr) _ hzz6) (.cons (.refl _) (.cons (.refl _) .nil))) rfl ?_
  refine wpO.val rfl (oper_bin rfl rfl binD_geq) rfl ?_
  refine wpO.val rfl (oper_assign rfl) rfl ?_
  refine wpO.nil ?_
  have hr := Option.some.inj h
  subst hr
  exact WpC.ret ⟨_, rfl, rfl, H0.keeps, end1 (ArgsC.eq .nil)⟩
set_option maxRecDepth 20000 in
set_option maxHeartbeats 4000000 in
theorem shape_element_ok (n : Nat) (a1 : Tree) (r : Bool) (h : shape_element n a1 = some r) : SpecC R cfg.P 33 [(encTree a1)] (.d (.bool r)) := by
  unfold shape_element at h
  refine SpecC.of_wp E.obj.toObjOk (C := cfg) Tryd.func33 rfl nm33 rfl ?_
  have H0 : Has pureSt pureSt [] := Has.pure
  refine WpC.seq ?_
  refine WpC.region E.obj rfl ?_
  refine wpO.box H0 rfl rfl rfl (Tree.cellsA _) rfl (fun b2 S3 H4 => ?_)
  refine wpO.val rfl (oper_assign rfl) rfl ?_
  refine wpO.nil ?_
  refine WpC.seq ?_
  refine WpC.seq ?_
  refine WpC.region E.obj rfl ?_
  refine wpO.val rfl (oper_fieldAddr rfl fo28_0 nz9 rfl) rfl ?_
  refine wpO.val rfl (oper_load H4 (i := 0) rfl rfl (part_one ag9 rfl)) rfl ?_
  refine wpO.val rfl (oper_len rfl (lenTy_str st9) rfl) rfl ?_
  refine wpO.val rfl (oper_bin rfl rfl binD_gtr) rfl ?_
  refine wpO.val rfl (oper_move rfl) rfl ?_
  obtain ⟨z6, hzz6, h⟩ := bind_some h
  refine wpO.groupV 5 15 (.d (.bool z6)) ?_ ?_
  ·
    rcases Bool.eq_false_or_eq_true ((decide (16 < ((a1.Tag).length : Int)))) with hB5 | hB5
    ·
      refine wpO.bool hB5 ?_
      refine wpO.no rfl rfl ?_
      refine wpO.no rfl rfl ?_
      refine wpO.no rfl rfl ?_
      refine wpO.no rfl rfl ?_
      refine wpO.val rfl (oper_pick (b := true) rfl rfl) rfl ?_
      replace hzz6 := if_t hB5 hzz6
      cases hzz6
      exact wpO.nil ⟨_, rfl, (WeakE.put (WeakE.push rfl (WeakE.push rfl (WeakE.push rfl (WeakE.push rfl (WeakE.put (.refl _) (Less.eq (by rw [hB5]))))))) (.refl _))⟩
    ·
      refine wpO.bool hB5 ?_
      replace hzz6 := if_f hB5 hzz6
      refine wpO.val rfl (oper_fieldAddr rfl fo28_0 nz9 rfl) rfl ?_
      refine wpO.val rfl (oper_load H4 (i := 0) rfl rfl (part_one ag9 rfl)) rfl ?_
      obtain ⟨z7, hzz7, hzz6⟩ := bind_some hzz6
      refine wpO.ret rfl (oper_callF rfl rfl) (E.strings_Trim_ok _ _ _ _ hzz7 _ _ (ArgsC.eq (ArgsC.eq .nil))) rfl ?_
      refine wpO.val rfl (oper_bin rfl rfl binD_sneq) rfl ?_
      refine wpO.val rfl (oper_pick (b := false) rfl rfl) rfl ?_
      cases hzz6
      exact wpO.nil ⟨_, rfl, (WeakE.put (WeakE.push rfl (WeakE.push rfl (WeakE.push rfl (WeakE.push rfl (WeakE.put (.refl _) (Less.eq (by rw [hB5]))))))) (.refl _))⟩
  ·
    refine wpO.val rfl (oper_move rfl) rfl ?_
    refine wpO.groupV 4 20 (.d (.bool (z6 || (!(a1.Text == []))))) ?_ ?_
    ·
      rcases Bool.eq_false_or_eq_true (z6) with hB8 | hB8
      ·
        refine wpO.bool hB8 ?_
        refine wpO.no rfl rfl ?_
        refine wpO.no rfl rfl ?_
        refine wpO.no rfl rfl ?_
        refine wpO.val rfl (oper_pick (b := true) rfl rfl) rfl ?_
        exact wpO.nil ⟨_, rfl, (WeakE.put (WeakE.push rfl (WeakE.push rfl (WeakE.push rfl (WeakE.put (.refl _) (Less.eq (by rw [hB8])))))) (Less.eq (by rw [hB8]; rw [Bool.true_or])))⟩
      ·
        refine wpO.bool hB8 ?_
        refine wpO.val rfl (oper_fieldAddr rfl fo28_2 nz9 rfl) rfl ?_
        refine wpO.val rfl (oper_load H4 (i := 0) rfl rfl (part_one ag9 rfl)) rfl ?_
        refine wpO.val rfl (oper_bin rfl rfl binD_sneq) rfl ?_
        refine wpO.val rfl (oper_pick (b := false) rfl rfl) rfl ?_
        exact wpO.nil ⟨_, rfl, (WeakE.put (WeakE.push rfl (WeakE.push rfl (WeakE.push rfl (WeakE.put (.refl _) (Less.eq (by rw [hB8])))))) (Less.eq (by rw [hB8]; rw [Bool.false_or])))⟩
    ·
      refine wpO.val rfl (oper_move rfl) rfl ?_
      refine wpO.groupV 5 26 (.d (.bool ((z6 || (!(a1.Text == []))) || (decide (24 < ((a1.Kids).length : Int)))))) ?_ ?_
      ·
        rcases Bool.eq_false_or_eq_true ((z6 || (!(a1.Text == [])))) with hB9 | hB9
        ·
          refine wpO.bool hB9 ?_
          refine wpO.no rfl rfl ?_
          refine wpO.no rfl rfl ?_
          refine wpO.no rfl rfl ?_
          refine wpO.no rfl rfl ?_
          refine wpO.val rfl (oper_pick (b := true) rfl rfl) rfl ?_
          exact wpO.nil ⟨_, rfl, (WeakE.put (WeakE.push rfl (WeakE.push rfl (WeakE.push rfl (WeakE.push rfl (WeakE.put (.refl _) (Less.eq (by rw [hB9]))))))) (Less.eq (by rw [hB9]; rw [Bool.true_or])))⟩
        ·
          refine wpO.bool hB9 ?_
          refine wpO.val rfl (oper_fieldAddr rfl fo28_4 nz26 rfl) rfl ?_
          refine wpO.val rfl (oper_load H4 (i := 0) rfl rfl (part_one ag26 rfl)) rfl ?_
          refine wpO.val rfl (oper_lenL rfl es26) rfl ?_
          refine wpO.val rfl (oper_bin rfl rfl binD_gtr) rfl ?_
          refine wpO.val rfl (oper_pick (b := false) rfl rfl) rfl ?_
          exact wpO.nil ⟨_, rfl, (WeakE.put (WeakE.push rfl (WeakE.push rfl (WeakE.push rfl (WeakE.push rfl (WeakE.put (.refl _) (Less.eq (by rw [hB9]))))))) (Less.eq (by rw [hB9]; rw [Bool.false_or])))⟩
      ·
        refine wpO.val rfl (oper_move rfl) rfl ?_
        refine wpO.groupV 5 32 (.d (.bool (((z6 || (!(a1.Text == []))) || (decide (24 < ((a1.Kids).length : Int)))) || (decide (64 < ((a1.Key).length : Int)))))) ?_ ?_
        ·
          rcases Bool.eq_false_or_eq_true (((z6 || (!(a1.Text == []))) || (decide (24 < ((a1.Kids).length : Int))))) with hB10 | hB10
          ·
            refine wpO.bool hB10 ?_
            refine wpO.no rfl rfl ?_
            refine wpO.no rfl rfl ?_
            refine wpO.no rfl rfl ?_
            refine wpO.no rfl rfl ?_
            refine wpO.val rfl (oper_pick (b := true) rfl rfl) rfl ?_
            exact wpO.nil ⟨_, rfl, (WeakE.put (WeakE.push rfl (WeakE.push rfl (WeakE.push rfl (WeakE.push rfl (WeakE.put (.refl _) (Less.eq (by rw [hB10]))))))) (Less.eq (by rw [hB10]; rw [Bool.true_or])))⟩
          ·
            refine wpO.bool hB10 ?_
            refine wpO.val rfl (oper_fieldAddr rfl fo28_1 nz9 rfl) rfl ?_
            refine wpO.val rfl (oper_load H4 (i := 0) rfl rfl (part_one ag9 rfl)) rfl ?_
            refine wpO.val rfl (oper_len rfl (lenTy_str st9) rfl) rfl ?_
            refine wpO.val rfl (oper_bin rfl rfl binD_gtr) rfl ?_
            refine wpO.val rfl (oper_pick (b := false) rfl rfl) rfl ?_
            exact wpO.nil ⟨_, rfl, (WeakE.put (WeakE.push rfl (WeakE.push rfl (WeakE.push rfl (WeakE.push rfl (WeakE.put (.refl _) (Less.eq (by rw [hB10]))))))) (Less.eq (by rw [hB10]; rw [Bool.false_or])))⟩
        ·
          refine wpO.nil ?_
          refine WpC.cond rfl (fun hb11 => ?_) (fun hb11 => ?_)
          ·
            replace h := if_t hb11 h
            refine WpC.seq ?_
            refine WpC.region E.obj rfl ?_
            refine wpO.val rfl (oper_assign rfl) rfl ?_
            refine wpO.nil ?_
            have hr := Option.some.inj h
            subst hr
            exact WpC.ret ⟨_, rfl, rfl, end1 (ArgsC.eq .nil)⟩
          ·
            replace h := if_f hb11 h
            refine WpC.skip ?_
            refine WpC.seq ?_
            refine WpC.seq ?_
            refine WpC.region E.obj rfl ?_
            refine wpO.val rfl (oper_fieldAddr rfl fo28_3 nz25 rfl) rfl ?_
            refine wpO.val rfl (oper_load H4 (i := 0) rfl rfl (part_one ag25 rfl)) rfl ?_
            refine wpO.val rfl (oper_lenL rfl es25) rfl ?_
            refine wpO.val rfl (oper_move rfl) rfl ?_
            refine wpO.nil ?_
            refine WpC.block ?_
            refine WpL.start (B := pureSt) (α := Int) (fun k a => shape_element_l20 n a1 k a = some r) (fun a => [(1, (.ptr b2 0 0)), (34, (.d (.sl ((a1.Attrs).map encAttr) false))), (35, (.d (.int .i64 ((a1.Attrs).length : Int)))), (36, (.d (.int .i64 a)))]) (fun a => [.box b2 [(.d (.str a1.Tag)), (.d (.str a1.Key)), (.d (.str a1.Text)), (.d (.sl ((a1.Attrs).map encAttr) false)), (.d (.sl ((a1.Kids).map encTree) false))]]) ?_ ?_ n ⟨0, _, _, S3, .refl _ _, .refl _, (WeakE.cons rfl (.refl _) (WeakE.cons rfl (.refl _) (WeakE.cons rfl (.refl _) (WeakE.cons rfl (.refl _) WeakE.nil)))), H4.sel [0] (by decide) rfl, h⟩
            · intro a h; simp [shape_element_l20] at h
            ·
              intro k20 x19 S17 H18 h
              replace h : shape_element_l20 n a1 (k20 + 1) x19 = some r := h
              replace H18 : Has pureSt S17 [.box b2 [(.d (.str a1.Tag)), (.d (.str a1.Key)), (.d (.str a1.Text)), (.d (.sl ((a1.Attrs).map encAttr) false)), (.d (.sl ((a1.Kids).map encTree) false))]] := H18
              unfold shape_element_l20 at h
              refine WpC.seq ?_
              refine WpC.region E.obj rfl ?_
              refine wpO.val rfl (oper_bin rfl rfl binD_lss) rfl ?_
              refine wpO.nil ?_
              refine WpC.seq ?_
              refine WpC.cond rfl (fun hb21 => ?_) (fun hb21 => ?_)
              ·
                replace h := if_t hb21 h
                refine WpC.skip ?_
                refine WpC.seq ?_
                refine WpC.block ?_
                refine WpC.seq ?_
                refine WpC.region E.obj rfl ?_
                refine wpO.val rfl (oper_move rfl) rfl ?_
                obtain ⟨z22, hzz22, h⟩ := bind_some h
                refine wpO.val rfl (oper_idx rfl rfl (idxAddr (enc := encAttr) hzz22 el25 as36 ((Attr.len _).trans sz36.symm))) rfl ?_
                refine wpO.val rfl (oper_loadE rfl (Attr.partW ag36 sz36)) rfl ?_
                refine wpO.alloc H18 rfl ob36 zo36 rfl rfl (fun b23 S24 H25 => ?_)
                refine wpO.val rfl (oper_assign rfl) rfl ?_
                refine wpO.store H25 (i := 0) rfl rfl rfl rfl (Attr.cellsA _) rfl sz36 rfl as36 rfl rfl rfl (fun S26 H27 => ?_)
                refine wpO.nil ?_
                refine WpC.seq ?_
                refine WpC.region E.obj rfl ?_
                refine wpO.val rfl (oper_makeFunc rfl) rfl ?_
                refine wpO.val rfl (oper_assign rfl) rfl ?_
                refine wpO.nil ?_
                refine WpC.seq ?_
                refine WpC.region E.obj rfl ?_
                refine wpO.val rfl (oper_fieldAddr rfl fo36_0 nz9 rfl) rfl ?_
                refine wpO.val rfl (oper_load H27 (i := 0) rfl rfl (part_one ag9 rfl)) rfl ?_
                refine wpO.val rfl (oper_bin rfl rfl binD_seql) rfl ?_
                refine wpO.val rfl (oper_move rfl) rfl ?_
                refine wpO.groupV 5 50 (.d (.bool ((z22.Name == []) || (decide (64 < ((z22.Name).length : Int)))))) ?_ ?_
                ·
                  rcases Bool.eq_false_or_eq_true ((z22.Name == [])) with hB28 | hB28
                  ·
                    refine wpO.bool hB28 ?_
                    refine wpO.no rfl rfl ?_
                    refine wpO.no rfl rfl ?_
                    refine wpO.no rfl rfl ?_
                    refine wpO.no rfl rfl ?_
                    refine wpO.val rfl (oper_pick (b := true) rfl rfl) rfl ?_
                    exact wpO.nil ⟨_, rfl, (WeakE.put (WeakE.push rfl (WeakE.push rfl (WeakE.push rfl (WeakE.push rfl (WeakE.put (.refl _) (Less.eq (by rw [hB28]))))))) (Less.eq (by rw [hB28]; rw [Bool.true_or])))⟩
                  ·
                    refine wpO.bool hB28 ?_
                    refine wpO.val rfl (oper_fieldAddr rfl fo36_0 nz9 rfl) rfl ?_
                    refine wpO.val rfl (oper_load H27 (i := 0) rfl rfl (part_one ag9 rfl)) rfl ?_
                    refine wpO.val rfl (oper_len rfl (lenTy_str st9) rfl) rfl ?_
                    refine wpO.val rfl (oper_bin rfl rfl binD_gtr) rfl ?_
                    refine wpO.val rfl (oper_pick (b := false) rfl rfl) rfl ?_
                    exact wpO.nil ⟨_, rfl, (WeakE.put (WeakE.push rfl (WeakE.push rfl (WeakE.push rfl (WeakE.push rfl (WeakE.put (.refl _) (Less.eq (by rw [hB28]))))))) (Less.eq (by rw [hB28]; rw [Bool.false_or])))⟩
                ·
                  refine wpO.val rfl (oper_move rfl) rfl ?_
                  refine wpO.groupV 5 56 (.d (.bool (((z22.Name == []) || (decide (64 < ((z22.Name).length : Int)))) || (decide (64 < ((z22.Value).length : Int)))))) ?_ ?_
                  ·
                    rcases Bool.eq_false_or_eq_true (((z22.Name == []) || (decide (64 < ((z22.Name).length : Int))))) with hB29 | hB29
                    ·
                      refine wpO.bool hB29 ?_
                      refine wpO.no rfl rfl ?_
                      refine wpO.no rfl rfl ?_
                      refine wpO.no rfl rfl ?_
                      refine wpO.no rfl rfl ?_
                      refine wpO.val rfl (oper_pick (b := true) rfl rfl) rfl ?_
                      exact wpO.nil ⟨_, rfl, (WeakE.put (WeakE.push rfl (WeakE.push rfl (WeakE.push rfl (WeakE.push rfl (WeakE.put (.refl _) (Less.eq (by rw [hB29]))))))) (Less.eq (by rw [hB29]; rw [Bool.true_or])))⟩
                    ·
                      refine wpO.bool hB29 ?_
                      refine wpO.val rfl (oper_fieldAddr rfl fo36_1 nz9 rfl) rfl ?_
                      refine wpO.val rfl (oper_load H27 (i := 0) rfl rfl (part_one ag9 rfl)) rfl ?_
                      refine wpO.val rfl (oper_len rfl (lenTy_str st9) rfl) rfl ?_
                      refine wpO.val rfl (oper_bin rfl rfl binD_gtr) rfl ?_
                      refine wpO.val rfl (oper_pick (b := false) rfl rfl) rfl ?_
                      exact wpO.nil ⟨_, rfl, (WeakE.put (WeakE.push rfl (WeakE.push rfl (WeakE.push rfl (WeakE.push rfl (WeakE.put (.refl _) (Less.eq (by rw [hB29]))))))) (Less.eq (by rw [hB29]; rw [Bool.false_or])))⟩
                  ·
                    refine wpO.val rfl (oper_move rfl) rfl ?_
                    obtain ⟨z31, hzz31, h⟩ := bind_some h
                    refine wpO.groupV 7 64 (.d (.bool z31)) ?_ ?_
                    ·
                      rcases Bool.eq_false_or_eq_true ((((z22.Name == []) || (decide (64 < ((z22.Name).length : Int)))) || (decide (64 < ((z22.Value).length : Int))))) with hB30 | hB30
                      ·
                        refine wpO.bool hB30 ?_
                        refine wpO.no rfl rfl ?_
                        refine wpO.no rfl rfl ?_
                        refine wpO.no rfl rfl ?_
                        refine wpO.no rfl rfl ?_
                        refine wpO.no rfl rfl ?_
                        refine wpO.no rfl rfl ?_
                        refine wpO.val rfl (oper_pick (b := true) rfl rfl) rfl ?_
                        replace hzz31 := if_t hB30 hzz31
                        cases hzz31
                        exact wpO.nil ⟨_, rfl, (WeakE.put (WeakE.push rfl (WeakE.push rfl (WeakE.push rfl (WeakE.push rfl (WeakE.push rfl (WeakE.push rfl (WeakE.put (.refl _) (Less.eq (by rw [hB30]))))))))) (.refl _))⟩
                      ·
                        refine wpO.bool hB30 ?_
                        replace hzz31 := if_f hB30 hzz31
                        refine wpO.val rfl (oper_fieldAddr rfl fo28_3 nz25 rfl) rfl ?_
                        refine wpO.val rfl (oper_load H27 (i := 1) rfl rfl (part_one ag25 rfl)) rfl ?_
                        refine wpO.val rfl (oper_move rfl) rfl ?_
                        obtain ⟨z32, hzz32, hzz31⟩ := bind_some hzz31
                        refine wpO.val rfl (oper_cut_h rfl rfl el25 ue25 (fun z => (Attr.len z).trans sz36.symm) hzz32) rfl ?_
                        refine wpO.val rfl (oper_move rfl) rfl ?_
                        obtain ⟨z34, hzz34, hzz31⟩ := bind_some hzz31
                        refine wpO.ret rfl (oper_callF rfl rfl) (SpecF.argsL (slices_ContainsFunc__api_Attr_api_Attr__ok E n S26 _ _ _ (fun y33 => shape_element_1 n y33 z22) (fun S' hk hw y33 r hr => shape_element_1_ok E n y33 z22 S' _ (hk.H _ _ (H27.at (i := 0) rfl)) r hr) _ hzz34) (.cons (.refl _) (.cons (.refl _) .nil))) rfl ?_
                        refine wpO.val rfl (oper_pick (b := false) rfl rfl) rfl ?_
                        cases hzz31
                        exact wpO.nil ⟨_, rfl, (WeakE.put (WeakE.push rfl (WeakE.push rfl (WeakE.push rfl (WeakE.push rfl (WeakE.push rfl (WeakE.push rfl (WeakE.put (.refl _) (Less.eq (by rw [hB30]))))))))) (.refl _))⟩
                    ·
                      refine wpO.nil ?_
                      refine WpC.cond rfl (fun hb35 => ?_) (fun hb35 => ?_)
                      ·
                        replace h := if_t hb35 h
                        refine WpC.seq ?_
                        refine WpC.region E.obj rfl ?_
                        refine wpO.val rfl (oper_assign rfl) rfl ?_
                        refine wpO.nil ?_
                        have hr := Option.some.inj h
                        subst hr
                        exact WpC.ret ⟨_, rfl, rfl, end1 (ArgsC.eq .nil)⟩
                      ·
                        replace h := if_f hb35 h
                        refine WpC.skip ?_
                        refine WpC.region E.obj rfl ?_
                        refine wpO.val rfl (oper_bin rfl rfl binD_add) rfl ?_
                        refine wpO.val rfl (oper_move rfl) rfl ?_
                        refine wpO.nil ?_
                        exact ⟨(IntKind.wrap .i64 (x19 + 1)), _, _, S26, .refl _ _, .refl _, (WeakE.cons rfl (.refl _) (WeakE.cons rfl (.refl _) (WeakE.cons rfl (.refl _) (WeakE.cons rfl (.refl _) WeakE.nil)))), H27.sel [1] (by decide) rfl, h⟩
              ·
                replace h := if_f hb21 h
                refine WpC.exit ?_
                refine WpC.seq ?_
                refine WpC.region E.obj rfl ?_
                refine wpO.val rfl (oper_assign rfl) rfl ?_
                refine wpO.nil ?_
                have hr := Option.some.inj h
                subst hr
                exact WpC.ret ⟨_, rfl, rfl, end1 (ArgsC.eq .nil)⟩
set_option maxRecDepth 20000 in
set_option maxHeartbeats 4000000 in
theorem shape_right_ok : ∀ (n : Nat) (a1 : Tree) (r : Bool), shape_right n a1 = some r → SpecC R cfg.P 27 [(encTree a1)] (.d (.bool r))
  | 0, a1, r, h => by simp [shape_right] at h
  | n + 1, a1, r, h => by
    have ih := shape_right_ok n
    unfold shape_right at h
    refine SpecC.of_wp E.obj.toObjOk (C := cfg) Tryd.func27 rfl nm27 rfl ?_
    have H0 : Has pureSt pureSt [] := Has.pure
    refine WpC.seq ?_
    refine WpC.region E.obj rfl ?_
    refine wpO.box H0 rfl rfl rfl (Tree.cellsA _) rfl (fun b2 S3 H4 => ?_)
    refine wpO.val rfl (oper_assign rfl) rfl ?_
    refine wpO.nil ?_
    refine WpC.seq ?_
    refine WpC.seq ?_
    refine WpC.region E.obj rfl ?_
    refine wpO.val rfl (oper_fieldAddr rfl fo28_0 nz9 rfl) rfl ?_
    refine wpO.val rfl (oper_load H4 (i := 0) rfl rfl (part_one ag9 rfl)) rfl ?_
    refine wpO.val rfl (oper_bin rfl rfl binD_seql) rfl ?_
    refine wpO.nil ?_
    refine WpC.cond rfl (fun hb5 => ?_) (fun hb5 => ?_)
    ·
      replace h := if_t hb5 h
      refine WpC.seq ?_
      refine WpC.region E.obj rfl ?_
      refine wpO.val rfl (oper_fieldAddr rfl fo28_1 nz9 rfl) rfl ?_
      refine wpO.val rfl (oper_load H4 (i := 0) rfl rfl (part_one ag9 rfl)) rfl ?_
      refine wpO.val rfl (oper_bin rfl rfl binD_seql) rfl ?_
      refine wpO.val rfl (oper_move rfl) rfl ?_
      refine wpO.groupV 5 16 (.d (.bool ((a1.Key == []) && (((a1.Attrs).length : Int) == 0)))) ?_ ?_
      ·
        rcases Bool.eq_false_or_eq_true ((a1.Key == [])) with hB6 | hB6
        ·
          refine wpO.bool hB6 ?_
          refine wpO.val rfl (oper_fieldAddr rfl fo28_3 nz25 rfl) rfl ?_
          refine wpO.val rfl (oper_load H4 (i := 0) rfl rfl (part_one ag25 rfl)) rfl ?_
          refine wpO.val rfl (oper_lenL rfl es25) rfl ?_
          refine wpO.val rfl (oper_bin rfl rfl binD_eql) rfl ?_
          refine wpO.val rfl (oper_pick (b := true) rfl rfl) rfl ?_
          exact wpO.nil ⟨_, rfl, (WeakE.put (WeakE.push rfl (WeakE.push rfl (WeakE.push rfl (WeakE.push rfl (WeakE.put (.refl _) (Less.eq (by rw [hB6]))))))) (Less.eq (by rw [hB6]; rw [Bool.true_and])))⟩
        ·
          refine wpO.bool hB6 ?_
          refine wpO.no rfl rfl ?_
          refine wpO.no rfl rfl ?_
          refine wpO.no rfl rfl ?_
          refine wpO.no rfl rfl ?_
          refine wpO.val rfl (oper_pick (b := false) rfl rfl) rfl ?_
          exact wpO.nil ⟨_, rfl, (WeakE.put (WeakE.push rfl (WeakE.push rfl (WeakE.push rfl (WeakE.push rfl (WeakE.put (.refl _) (Less.eq (by rw [hB6]))))))) (Less.eq (by rw [hB6]; rw [Bool.false_and])))⟩
      ·
        refine wpO.val rfl (oper_move rfl) rfl ?_
        refine wpO.groupV 5 22 (.d (.bool (((a1.Key == []) && (((a1.Attrs).length : Int) == 0)) && (((a1.Kids).length : Int) == 0)))) ?_ ?_
        ·
          rcases Bool.eq_false_or_eq_true (((a1.Key == []) && (((a1.Attrs).length : Int) == 0))) with hB7 | hB7
          ·
            refine wpO.bool hB7 ?_
            refine wpO.val rfl (oper_fieldAddr rfl fo28_4 nz26 rfl) rfl ?_
            refine wpO.val rfl (oper_load H4 (i := 0) rfl rfl (part_one ag26 rfl)) rfl ?_
            refine wpO.val rfl (oper_lenL rfl es26) rfl ?_
            refine wpO.val rfl (oper_bin rfl rfl binD_eql) rfl ?_
            refine wpO.val rfl (oper_pick (b := true) rfl rfl) rfl ?_
            exact wpO.nil ⟨_, rfl, (WeakE.put (WeakE.push rfl (WeakE.push rfl (WeakE.push rfl (WeakE.push rfl (WeakE.put (.refl _) (Less.eq (by rw [hB7]))))))) (Less.eq (by rw [hB7]; rw [Bool.true_and])))⟩
          ·
            refine wpO.bool hB7 ?_
            refine wpO.no rfl rfl ?_
            refine wpO.no rfl rfl ?_
            refine wpO.no rfl rfl ?_
            refine wpO.no rfl rfl ?_
            refine wpO.val rfl (oper_pick (b := false) rfl rfl) rfl ?_
            exact wpO.nil ⟨_, rfl, (WeakE.put (WeakE.push rfl (WeakE.push rfl (WeakE.push rfl (WeakE.push rfl (WeakE.put (.refl _) (Less.eq (by rw [hB7]))))))) (Less.eq (by rw [hB7]; rw [Bool.false_and])))⟩
        ·
          refine wpO.val rfl (oper_move rfl) rfl ?_
          refine wpO.groupV 5 28 (.d (.bool ((((a1.Key == []) && (((a1.Attrs).length : Int) == 0)) && (((a1.Kids).length : Int) == 0)) && (decide (((a1.Text).length : Int) ≤ 64))))) ?_ ?_
          ·
            rcases Bool.eq_false_or_eq_true ((((a1.Key == []) && (((a1.Attrs).length : Int) == 0)) && (((a1.Kids).length : Int) == 0))) with hB8 | hB8
            ·
              refine wpO.bool hB8 ?_
              refine wpO.val rfl (oper_fieldAddr rfl fo28_2 nz9 rfl) rfl ?_
              refine wpO.val rfl (oper_load H4 (i := 0) rfl rfl (part_one ag9 rfl)) rfl ?_
              refine wpO.val rfl (oper_len rfl (lenTy_str st9) rfl) rfl ?_
              refine wpO.val rfl (oper_bin rfl rfl binD_leq) rfl ?_
              refine wpO.val rfl (oper_pick (b := true) rfl rfl) rfl ?_
              exact wpO.nil ⟨_, rfl, (WeakE.put (WeakE.push rfl (WeakE.push rfl (WeakE.push rfl (WeakE.push rfl (WeakE.put (.refl _) (Less.eq (by rw [hB8]))))))) (Less.eq (by rw [hB8]; rw [Bool.true_and])))⟩
            ·
              refine wpO.bool hB8 ?_
              refine wpO.no rfl rfl ?_
              refine wpO.no rfl rfl ?_
              refine wpO.no rfl rfl ?_
              refine wpO.no rfl rfl ?_
              refine wpO.val rfl (oper_pick (b := false) rfl rfl) rfl ?_
              exact wpO.nil ⟨_, rfl, (WeakE.put (WeakE.push rfl (WeakE.push rfl (WeakE.push rfl (WeakE.push rfl (WeakE.put (.refl _) (Less.eq (by rw [hB8]))))))) (Less.eq (by rw [hB8]; rw [Bool.false_and])))⟩
          ·
            refine wpO.val rfl (oper_assign rfl) rfl ?_
            refine wpO.nil ?_
            have hr := Option.some.inj h
            subst hr
            exact WpC.ret ⟨_, rfl, rfl, end1 (ArgsC.eq .nil)⟩
    ·
      replace h := if_f hb5 h
      refine WpC.skip ?_
      refine WpC.seq ?_
      refine WpC.seq ?_
      refine WpC.region E.obj rfl ?_
      refine wpO.val rfl (oper_load H4 (i := 0) rfl rfl (part_agg ag28 sz28 rfl)) rfl ?_
      refine wpO.less (Less.agg' (d := encTree a1) (CellsC.eq rfl (CellsC.eq rfl (CellsC.eq rfl (CellsC.eq rfl (CellsC.eq rfl .nil))))) ((Tree.eq _).trans rfl)) ?_
      obtain ⟨z9, hzz9, h⟩ := bind_some h
      refine wpO.ret rfl (oper_callF rfl rfl) (shape_element_ok E _ _ _ hzz9 _ _ (ArgsC.eq .nil)) rfl ?_
      refine wpO.val rfl (oper_not rfl) rfl ?_
      refine wpO.nil ?_
      refine WpC.cond rfl (fun hb10 => ?_) (fun hb10 => ?_)
      ·
        replace h := if_t hb10 h
        refine WpC.seq ?_
        refine WpC.region E.obj rfl ?_
        refine wpO.val rfl (oper_assign rfl) rfl ?_
        refine wpO.nil ?_
        have hr := Option.some.inj h
        subst hr
        exact WpC.ret ⟨_, rfl, rfl, end1 (ArgsC.eq .nil)⟩
      ·
        replace h := if_f hb10 h
        refine WpC.skip ?_
        refine WpC.seq ?_
        refine WpC.seq ?_
        refine WpC.region E.obj rfl ?_
        refine wpO.val rfl (oper_fieldAddr rfl fo28_4 nz26 rfl) rfl ?_
        refine wpO.val rfl (oper_load H4 (i := 0) rfl rfl (part_one ag26 rfl)) rfl ?_
        refine wpO.val rfl (oper_lenL rfl es26) rfl ?_
        refine wpO.val rfl (oper_move rfl) rfl ?_
        refine wpO.nil ?_
        refine WpC.block ?_
        refine WpL.start (B := pureSt) (α := Int) (fun k a => shape_right_l19 (shape_right n) a1 k a = some r) (fun a => [(33, (.d (.sl ((a1.Kids).map encTree) false))), (34, (.d (.int .i64 ((a1.Kids).length : Int)))), (35, (.d (.int .i64 a)))]) (fun a => []) ?_ ?_ n ⟨0, _, _, S3, .refl _ _, .refl _, (WeakE.cons rfl (.refl _) (WeakE.cons rfl (.refl _) (WeakE.cons rfl (.refl _) WeakE.nil))), H4.sel [] (by decide) rfl, h⟩
        · intro a h; simp [shape_right_l19] at h
        ·
          intro k19 x18 S16 H17 h
          replace h : shape_right_l19 (shape_right n) a1 (k19 + 1) x18 = some r := h
          replace H17 : Has pureSt S16 [] := H17
          unfold shape_right_l19 at h
          refine WpC.seq ?_
          refine WpC.region E.obj rfl ?_
          refine wpO.val rfl (oper_bin rfl rfl binD_lss) rfl ?_
          refine wpO.nil ?_
          refine WpC.seq ?_
          refine WpC.cond rfl (fun hb20 => ?_) (fun hb20 => ?_)
          ·
            replace h := if_t hb20 h
            refine WpC.skip ?_
            refine WpC.seq ?_
            refine WpC.block ?_
            refine WpC.seq ?_
            refine WpC.region E.obj rfl ?_
            obtain ⟨z21, hzz21, h⟩ := bind_some h
            refine wpO.val rfl (oper_idx rfl rfl (idxAddr (enc := encTree) hzz21 el26 as28 ((Tree.len _).trans sz28.symm))) rfl ?_
            refine wpO.val rfl (oper_loadE rfl (Tree.partW ag28 sz28)) rfl ?_
            refine wpO.alloc H17 rfl ob28 zo28 rfl rfl (fun b22 S23 H24 => ?_)
            refine wpO.store H24 (i := 0) rfl rfl rfl rfl (Tree.cellsA _) rfl sz28 rfl as28 rfl rfl rfl (fun S25 H26 => ?_)
            refine wpO.nil ?_
            refine WpC.seq ?_
            refine WpC.region E.obj rfl ?_
            refine wpO.val rfl (oper_load H26 (i := 0) rfl rfl (part_agg ag28 sz28 rfl)) rfl ?_
            refine wpO.less (Less.agg' (d := encTree z21) (CellsC.eq rfl (CellsC.eq rfl (CellsC.eq rfl (CellsC.eq rfl (CellsC.eq rfl .nil))))) ((Tree.eq _).trans rfl)) ?_
            obtain ⟨z27, hzz27, h⟩ := bind_some h
            refine wpO.ret rfl (oper_callF rfl rfl) (ih _ _ hzz27 _ _ (ArgsC.eq .nil)) rfl ?_
            refine wpO.val rfl (oper_not rfl) rfl ?_
            refine wpO.nil ?_
            refine WpC.cond rfl (fun hb28 => ?_) (fun hb28 => ?_)
            ·
              replace h := if_t hb28 h
              refine WpC.seq ?_
              refine WpC.region E.obj rfl ?_
              refine wpO.val rfl (oper_assign rfl) rfl ?_
              refine wpO.nil ?_
              have hr := Option.some.inj h
              subst hr
              exact WpC.ret ⟨_, rfl, rfl, end1 (ArgsC.eq .nil)⟩
            ·
              replace h := if_f hb28 h
              refine WpC.skip ?_
              refine WpC.region E.obj rfl ?_
              refine wpO.val rfl (oper_bin rfl rfl binD_add) rfl ?_
              refine wpO.val rfl (oper_move rfl) rfl ?_
              refine wpO.nil ?_
              exact ⟨(IntKind.wrap .i64 (x18 + 1)), _, _, S25, .refl _ _, .refl _, (WeakE.cons rfl (.refl _) (WeakE.cons rfl (.refl _) (WeakE.cons rfl (.refl _) WeakE.nil))), H26.sel [] (by decide) rfl, h⟩
          ·
            replace h := if_f hb20 h
            refine WpC.exit ?_
            refine WpC.seq ?_
            refine WpC.region E.obj rfl ?_
            refine wpO.val rfl (oper_assign rfl) rfl ?_
            refine wpO.nil ?_
            have hr := Option.some.inj h
            subst hr
            exact WpC.ret ⟨_, rfl, rfl, end1 (ArgsC.eq .nil)⟩
set_option maxRecDepth 20000 in
set_option maxHeartbeats 4000000 in
theorem shape_Right_ok (n : Nat) (a1 : Tree) (r : Bool) (h : shape_Right n a1 = some r) : SpecC R cfg.P 11 [(encTree a1)] (.d (.bool r)) := by
  unfold shape_Right at h
  refine SpecC.of_wp E.obj.toObjOk (C := cfg) Tryd.func11 rfl nm11 rfl ?_
  have H0 : Has pureSt pureSt [] := Has.pure
  refine WpC.seq ?_
  refine WpC.region E.obj rfl ?_
  refine wpO.box H0 rfl rfl rfl (Tree.cellsA _) rfl (fun b2 S3 H4 => ?_)
  refine wpO.val rfl (oper_assign rfl) rfl ?_
  refine wpO.nil ?_
  refine WpC.seq ?_
  refine WpC.region E.obj rfl ?_
  refine wpO.val rfl (oper_load H4 (i := 0) rfl rfl (part_agg ag28 sz28 rfl)) rfl ?_
  refine wpO.less (Less.agg' (d := encTree a1) (CellsC.eq rfl (CellsC.eq rfl (CellsC.eq rfl (CellsC.eq rfl (CellsC.eq rfl .nil))))) ((Tree.eq _).trans rfl)) ?_
  obtain ⟨z5, hzz5, h⟩ := bind_some h
  refine wpO.ret rfl (oper_callF rfl rfl) (shape_right_ok E _ _ _ hzz5 _ _ (ArgsC.eq .nil)) rfl ?_
  refine wpO.val rfl (oper_move rfl) rfl ?_
  obtain ⟨z7, hzz7, h⟩ := bind_some h
  refine wpO.groupV 4 9 (.d (.bool z7)) ?_ ?_
  ·
    rcases Bool.eq_false_or_eq_true (z5) with hB6 | hB6
    ·
      refine wpO.bool hB6 ?_
      replace hzz7 := if_t hB6 hzz7
      refine wpO.val rfl (oper_load H4 (i := 0) rfl rfl (part_agg ag28 sz28 rfl)) rfl ?_
      refine wpO.less (Less.agg' (d := encTree a1) (CellsC.eq rfl (CellsC.eq rfl (CellsC.eq rfl (CellsC.eq rfl (CellsC.eq rfl .nil))))) ((Tree.eq _).trans rfl)) ?_
      obtain ⟨z8, hzz8, hzz7⟩ := bind_some hzz7
      refine wpO.ret rfl (oper_callF rfl rfl) (shape_Count_ok E _ _ _ hzz8 _ _ (ArgsC.eq .nil)) rfl ?_
      refine wpO.val rfl (oper_bin rfl rfl binD_leq) rfl ?_
      refine wpO.val rfl (oper_pick (b := true) rfl rfl) rfl ?_
      cases hzz7
      exact wpO.nil ⟨_, rfl, (WeakE.put (WeakE.push rfl (WeakE.push rfl (WeakE.push rfl (WeakE.put (.refl _) (Less.eq (by rw [hB6])))))) (.refl _))⟩
    ·
      refine wpO.bool hB6 ?_
      refine wpO.no rfl rfl ?_
      refine wpO.no rfl rfl ?_
      refine wpO.no rfl rfl ?_
      refine wpO.val rfl (oper_pick (b := false) rfl rfl) rfl ?_
      replace hzz7 := if_f hB6 hzz7
      cases hzz7
      exact wpO.nil ⟨_, rfl, (WeakE.put (WeakE.push rfl (WeakE.push rfl (WeakE.push rfl (WeakE.put (.refl _) (Less.eq (by rw [hB6])))))) (.refl _))⟩
  ·
    refine wpO.val rfl (oper_move rfl) rfl ?_
    obtain ⟨z10, hzz10, h⟩ := bind_some h
    refine wpO.groupV 4 14 (.d (.bool z10)) ?_ ?_
    ·
      rcases Bool.eq_false_or_eq_true (z7) with hB9 | hB9
      ·
        refine wpO.bool hB9 ?_
        replace hzz10 := if_t hB9 hzz10
        refine wpO.val rfl (oper_load H4 (i := 0) rfl rfl (part_agg ag28 sz28 rfl)) rfl ?_
        refine wpO.less (Less.agg' (d := encTree a1) (CellsC.eq rfl (CellsC.eq rfl (CellsC.eq rfl (CellsC.eq rfl (CellsC.eq rfl .nil))))) ((Tree.eq _).trans rfl)) ?_
        obtain ⟨z11, hzz11, hzz10⟩ := bind_some hzz10
        refine wpO.ret rfl (oper_callF rfl rfl) (shape_Deep_ok E _ _ _ hzz11 _ _ (ArgsC.eq .nil)) rfl ?_
        refine wpO.val rfl (oper_bin rfl rfl binD_leq) rfl ?_
        refine wpO.val rfl (oper_pick (b := true) rfl rfl) rfl ?_
        cases hzz10
        exact wpO.nil ⟨_, rfl, (WeakE.put (WeakE.push rfl (WeakE.push rfl (WeakE.push rfl (WeakE.put (.refl _) (Less.eq (by rw [hB9])))))) (.refl _))⟩
      ·
        refine wpO.bool hB9 ?_
        refine wpO.no rfl rfl ?_
        refine wpO.no rfl rfl ?_
        refine wpO.no rfl rfl ?_
        refine wpO.val rfl (oper_pick (b := false) rfl rfl) rfl ?_
        replace hzz10 := if_f hB9 hzz10
        cases hzz10
        exact wpO.nil ⟨_, rfl, (WeakE.put (WeakE.push rfl (WeakE.push rfl (WeakE.push rfl (WeakE.put (.refl _) (Less.eq (by rw [hB9])))))) (.refl _))⟩
    ·
      refine wpO.val rfl (oper_assign rfl) rfl ?_
      refine wpO.nil ?_
      have hr := Option.some.inj h
      subst hr
      exact WpC.ret ⟨_, rfl, rfl, end1 (ArgsC.eq .nil)⟩
set_option maxRecDepth 20000 in
set_option maxHeartbeats 4000000 in
theorem shape_said_ok (n : Nat) (a1 : Str) (r : Str) (h : shape_said n a1 = some r) : SpecC R cfg.P 31 [(.str a1)] (.d (.str r)) := by
  unfold shape_said at h
  refine SpecC.of_wp E.obj.toObjOk (C := cfg) Tryd.func31 rfl nm31 rfl ?_
  have H0 : Has pureSt pureSt [] := Has.pure
  refine WpC.seq ?_
  refine WpC.region E.obj rfl ?_
  refine wpO.val rfl (oper_assign rfl) rfl ?_
  refine wpO.nil ?_
  refine WpC.seq ?_
  refine WpC.region E.obj rfl ?_
  refine wpO.allocObj H0 rfl ob50 rfl (fun b2 S3 H4 => ?_)
  refine wpO.nil ?_
  refine WpC.seq ?_
  refine WpC.region E.obj rfl ?_
  obtain ⟨z7, hzz7, h⟩ := bind_some h
  refine wpO.wb E.bld H4 rfl rfl (i := 0) rfl hzz7 rfl (fun S5 H6 => ?_)
  refine wpO.nil ?_
  refine WpC.seq ?_
  refine WpC.seq ?_
  refine WpC.region E.obj rfl ?_
  refine wpO.val rfl (oper_move rfl) rfl ?_
  refine wpO.val rfl (oper_len rfl (lenTy_str st9) rfl) rfl ?_
  refine wpO.val rfl (oper_move rfl) rfl ?_
  refine wpO.nil ?_
  refine WpC.block ?_
  refine WpL.start (B := pureSt) (α := Str × Int) (fun k a => shape_said_l18 a1 k a.1 a.2 = some r) (fun a => [(0, (.d (.str a1))), (3, (.ptr b2 0 0)), (7, (.d (.int .i64 ((a1).length : Int)))), (8, (.d (.int .i64 a.2)))]) (fun a => [.obj b2 1 (.str a.1)]) ?_ ?_ n ⟨⟨z7, 0⟩, _, _, S5, .refl _ _, .refl _, (WeakE.cons rfl (.refl _) (WeakE.cons rfl (.refl _) (WeakE.cons rfl (.refl _) (WeakE.cons rfl (.refl _) WeakE.nil)))), H6.sel [0] (by decide) rfl, h⟩
  · intro a h; simp [shape_said_l18] at h
  ·
    intro k18 a S14 H15 h
    obtain ⟨x16, x17⟩ := a
    replace h : shape_said_l18 a1 (k18 + 1) x16 x17 = some r := h
    replace H15 : Has pureSt S14 [.obj b2 1 (.str x16)] := H15
    unfold shape_said_l18 at h
    refine WpC.seq ?_
    refine WpC.region E.obj rfl ?_
    refine wpO.val rfl (oper_bin rfl rfl binD_lss) rfl ?_
    refine wpO.nil ?_
    refine WpC.seq ?_
    refine WpC.cond rfl (fun hb19 => ?_) (fun hb19 => ?_)
    ·
      replace h := if_t hb19 h
      refine WpC.skip ?_
      refine WpC.seq ?_
      refine WpC.block ?_
      refine WpC.seq ?_
      refine WpC.region E.obj rfl ?_
      refine wpO.val rfl (oper_move rfl) rfl ?_
      refine wpO.val rfl (oper_assign rfl) rfl ?_
      refine wpO.nil ?_
      refine WpC.join (B := pureSt) (α := Str) (fun a => shape_said_j23 a1 x17 (shape_said_l18 a1 k18) a = some r) (fun a => [(0, (.d (.str a1))), (3, (.ptr b2 0 0)), (4, (.d (.int .i64 x17))), (7, (.d (.int .i64 ((a1).length : Int)))), (8, (.d (.int .i64 x17)))]) (fun a => [.obj b2 1 (.str a)]) ?_ ?_
      ·
        intro x22 S20 H21 h
        replace h : shape_said_j23 a1 x17 (shape_said_l18 a1 k18) x22 = some r := h
        replace H21 : Has pureSt S20 [.obj b2 1 (.str x22)] := H21
        unfold shape_said_j23 at h
        refine WpC.region E.obj rfl ?_
        refine wpO.val rfl (oper_move rfl) rfl ?_
        refine wpO.val rfl (oper_move rfl) rfl ?_
        obtain ⟨z24, hzz24, h⟩ := bind_some h
        refine wpO.val rfl (oper_strIdx rfl rfl (idx_some hzz24).1 st9 (idx_some hzz24).2) rfl ?_
        obtain ⟨z27, hzz27, h⟩ := bind_some h
        refine wpO.wb E.bld H21 rfl rfl (i := 0) rfl hzz27 rfl (fun S25 H26 => ?_)
        refine wpO.nil ?_
        refine WpC.region E.obj rfl ?_
        refine wpO.val rfl (oper_bin rfl rfl binD_add) rfl ?_
        refine wpO.val rfl (oper_move rfl) rfl ?_
        refine wpO.nil ?_
        exact ⟨⟨z27, (IntKind.wrap .i64 (x17 + 1))⟩, _, _, S25, .refl _ _, .refl _, (WeakE.cons rfl (.refl _) (WeakE.cons rfl (.refl _) (WeakE.cons rfl (.refl _) (WeakE.cons rfl (.refl _) WeakE.nil)))), H26.sel [0] (by decide) rfl, h⟩
      ·
        refine WpC.seq ?_
        refine WpC.region E.obj rfl ?_
        refine wpO.val rfl (oper_move rfl) rfl ?_
        refine wpO.val rfl (oper_move rfl) rfl ?_
        obtain ⟨z28, hzz28, h⟩ := bind_some h
        refine wpO.val rfl (oper_strIdx rfl rfl (idx_some hzz28).1 st9 (idx_some hzz28).2) rfl ?_
        refine wpO.val rfl (oper_bin rfl rfl binD_eql) rfl ?_
        refine wpO.val rfl (oper_move rfl) rfl ?_
        obtain ⟨z30, hzz30, h⟩ := bind_some h
        refine wpO.groupV 5 20 (.d (.bool z30)) ?_ ?_
        ·
          rcases Bool.eq_false_or_eq_true (((z28.toNat : Int) == 34)) with hB29 | hB29
          ·
            refine wpO.bool hB29 ?_
            refine wpO.no rfl rfl ?_
            refine wpO.no rfl rfl ?_
            refine wpO.no rfl rfl ?_
            refine wpO.no rfl rfl ?_
            refine wpO.val rfl (oper_pick (b := true) rfl rfl) rfl ?_
            replace hzz30 := if_t hB29 hzz30
            cases hzz30
            exact wpO.nil ⟨_, rfl, (WeakE.put (WeakE.push rfl (WeakE.push rfl (WeakE.push rfl (WeakE.push rfl (WeakE.put (.refl _) (Less.eq (by rw [hB29]))))))) (.refl _))⟩
          ·
            refine wpO.bool hB29 ?_
            replace hzz30 := if_f hB29 hzz30
            refine wpO.val rfl (oper_move rfl) rfl ?_
            refine wpO.val rfl (oper_move rfl) rfl ?_
            obtain ⟨z31, hzz31, hzz30⟩ := bind_some hzz30
            refine wpO.val rfl (oper_strIdx rfl rfl (idx_some hzz31).1 st9 (idx_some hzz31).2) rfl ?_
            refine wpO.val rfl (oper_bin rfl rfl binD_eql) rfl ?_
            refine wpO.val rfl (oper_pick (b := false) rfl rfl) rfl ?_
            cases hzz30
            exact wpO.nil ⟨_, rfl, (WeakE.put (WeakE.push rfl (WeakE.push rfl (WeakE.push rfl (WeakE.push rfl (WeakE.put (.refl _) (Less.eq (by rw [hB29]))))))) (.refl _))⟩
        ·
          refine wpO.nil ?_
          refine WpC.cond rfl (fun hb32 => ?_) (fun hb32 => ?_)
          ·
            replace h := if_t hb32 h
            refine WpC.region E.obj rfl ?_
            obtain ⟨z35, hzz35, h⟩ := bind_some h
            refine wpO.wb E.bld H15 rfl rfl (i := 0) rfl hzz35 rfl (fun S33 H34 => ?_)
            refine wpO.nil ?_
            exact ⟨z35, _, _, S33, .refl _ _, .refl _, (WeakE.cons rfl (.refl _) (WeakE.cons rfl (.refl _) (WeakE.cons rfl (.refl _) (WeakE.cons rfl (.refl _) (WeakE.cons rfl (.refl _) WeakE.nil))))), H34.sel [0] (by decide) rfl, h⟩
          ·
            replace h := if_f hb32 h
            refine WpC.skip ?_
            exact ⟨x16, _, _, S14, .refl _ _, .refl _, (WeakE.cons rfl (.refl _) (WeakE.cons rfl (.refl _) (WeakE.cons rfl (.refl _) (WeakE.cons rfl (.refl _) (WeakE.cons rfl (.refl _) WeakE.nil))))), H15.sel [0] (by decide) rfl, h⟩
    ·
      replace h := if_f hb19 h
      refine WpC.exit ?_
      refine WpC.seq ?_
      refine WpC.region E.obj rfl ?_
      obtain ⟨z38, hzz38, h⟩ := bind_some h
      refine wpO.wb E.bld H15 rfl rfl (i := 0) rfl hzz38 rfl (fun S36 H37 => ?_)
      refine wpO.nil ?_
      refine WpC.seq ?_
      refine WpC.region E.obj rfl ?_
      refine wpO.st E.bld H37 rfl rfl (i := 0) rfl rfl (fun S39 H40 => ?_)
      refine wpO.val rfl (oper_assign rfl) rfl ?_
      refine wpO.nil ?_
      have hr := Option.some.inj h
      subst hr
      exact WpC.ret ⟨_, rfl, rfl, end1 (ArgsC.eq .nil)⟩
set_option maxRecDepth 20000 in
set_option maxHeartbeats 4000000 in
theorem shape_render1_ok : ∀ (n : Nat) (a2 : Str) (a3 : Tree) (r : Str), shape_render1 n a2 a3 = some r → ∀ (b1 : Nat), SpecM R cfg.P 22 [.ptr b1 0 0, .d (encTree a3)] [.obj b1 1 (.str a2)] (fun v l => v = .tup [] ∧ l = [.obj b1 1 (.str r)])
  | 0, a2, a3, r, h, b1 => by simp [shape_render1] at h
  | n + 1, a2, a3, r, h, b1 => by
    have ih := shape_render1_ok n
    unfold shape_render1 at h
    refine SpecM.of_wp (C := cfg) Tryd.func22 rfl nm22 rfl (fun B0 S0 H0 => ?_)
    replace H0 : Has B0 S0 [.obj b1 1 (.str a2)] := H0
    refine WpC.seq ?_
    refine WpC.region E.obj rfl ?_
    refine wpO.box H0 rfl rfl rfl (Tree.cellsA _) rfl (fun b4 S5 H6 => ?_)
    refine wpO.nil ?_
    refine WpC.seq ?_
    refine WpC.seq ?_
    refine WpC.region E.obj rfl ?_
    refine wpO.val rfl (oper_fieldAddr rfl fo28_0 nz9 rfl) rfl ?_
    refine wpO.val rfl (oper_load H6 (i := 0) rfl rfl (part_one ag9 rfl)) rfl ?_
    refine wpO.val rfl (oper_bin rfl rfl binD_seql) rfl ?_
    refine wpO.nil ?_
    refine WpC.cond rfl (fun hb7 => ?_) (fun hb7 => ?_)
    ·
      replace h := if_t hb7 h
      refine WpC.seq ?_
      refine WpC.region E.obj rfl ?_
      refine wpO.val rfl (oper_move rfl) rfl ?_
      refine wpO.val rfl (oper_fieldAddr rfl fo28_2 nz9 rfl) rfl ?_
      refine wpO.val rfl (oper_load H6 (i := 0) rfl rfl (part_one ag9 rfl)) rfl ?_
      obtain ⟨z8, hzz8, h⟩ := bind_some h
      refine wpO.ret rfl (oper_callF rfl rfl) (shape_said_ok E _ _ _ hzz8 _ _ (ArgsC.eq .nil)) rfl ?_
      obtain ⟨z11, hzz11, h⟩ := bind_some h
      refine wpO.ws E.bld H6 rfl rfl (i := 1) rfl hzz11 rfl (fun S9 H10 => ?_)
      refine wpO.nil ?_
      have hr := Option.some.inj h
      subst hr
      exact WpC.ret ⟨_, rfl, rfl, _, _, _, .refl _, (.refl _), ⟨rfl, rfl⟩, H10.sel [1] (by decide) rfl⟩
    ·
      replace h := if_f hb7 h
      refine WpC.skip ?_
      refine WpC.seq ?_
      refine WpC.region E.obj rfl ?_
      refine wpO.val rfl (oper_move rfl) rfl ?_
      refine wpO.val rfl (oper_fieldAddr rfl fo28_0 nz9 rfl) rfl ?_
      refine wpO.val rfl (oper_load H6 (i := 0) rfl rfl (part_one ag9 rfl)) rfl ?_
      obtain ⟨z12, hzz12, h⟩ := bind_some h
      refine wpO.val rfl (oper_bin rfl rfl (binD_catI hzz12)) rfl ?_
      obtain ⟨z15, hzz15, h⟩ := bind_some h
      refine wpO.ws E.bld H6 rfl rfl (i := 1) rfl hzz15 rfl (fun S13 H14 => ?_)
      refine wpO.nil ?_
      refine WpC.join (B := B0) (α := Str) (fun a => shape_render1_j19 n (shape_render1 n) a3 a = some r) (fun a => [(0, (.ptr b1 0 0)), (3, (.ptr b4 0 0))]) (fun a => [.box b4 [(.d (.str a3.Tag)), (.d (.str a3.Key)), (.d (.str a3.Text)), (.d (.sl ((a3.Attrs).map encAttr) false)), (.d (.sl ((a3.Kids).map encTree) false))], .obj b1 1 (.str a)]) ?_ ?_
      ·
        intro x18 S16 H17 h
        replace h : shape_render1_j19 n (shape_render1 n) a3 x18 = some r := h
        replace H17 : Has B0 S16 [.box b4 [(.d (.str a3.Tag)), (.d (.str a3.Key)), (.d (.str a3.Text)), (.d (.sl ((a3.Attrs).map encAttr) false)), (.d (.sl ((a3.Kids).map encTree) false))], .obj b1 1 (.str x18)] := H17
        unfold shape_render1_j19 at h
        refine WpC.seq ?_
        refine WpC.seq ?_
        refine WpC.region E.obj rfl ?_
        refine wpO.val rfl (oper_fieldAddr rfl fo28_3 nz25 rfl) rfl ?_
        refine wpO.val rfl (oper_load H17 (i := 0) rfl rfl (part_one ag25 rfl)) rfl ?_
        refine wpO.val rfl (oper_lenL rfl es25) rfl ?_
        refine wpO.val rfl (oper_move rfl) rfl ?_
        refine wpO.nil ?_
        refine WpC.block ?_
        refine WpL.start (B := B0) (α := Str × Int) (fun k a => shape_render1_l30 n (shape_render1 n) a3 k a.1 a.2 = some r) (fun a => [(0, (.ptr b1 0 0)), (3, (.ptr b4 0 0)), (31, (.d (.sl ((a3.Attrs).map encAttr) false))), (32, (.d (.int .i64 ((a3.Attrs).length : Int)))), (33, (.d (.int .i64 a.2)))]) (fun a => [.box b4 [(.d (.str a3.Tag)), (.d (.str a3.Key)), (.d (.str a3.Text)), (.d (.sl ((a3.Attrs).map encAttr) false)), (.d (.sl ((a3.Kids).map encTree) false))], .obj b1 1 (.str a.1)]) ?_ ?_ n ⟨⟨x18, 0⟩, _, _, S16, .refl _ _, .refl _, (WeakE.cons rfl (.refl _) (WeakE.cons rfl (.refl _) (WeakE.cons rfl (.refl _) (WeakE.cons rfl (.refl _) (WeakE.cons rfl (.refl _) WeakE.nil))))), H17.sel [0, 1] (by decide) rfl, h⟩
        · intro a h; simp [shape_render1_l30] at h
        ·
          intro k30 a S26 H27 h
          obtain ⟨x28, x29⟩ := a
          replace h : shape_render1_l30 n (shape_render1 n) a3 (k30 + 1) x28 x29 = some r := h
          replace H27 : Has B0 S26 [.box b4 [(.d (.str a3.Tag)), (.d (.str a3.Key)), (.d (.str a3.Text)), (.d (.sl ((a3.Attrs).map encAttr) false)), (.d (.sl ((a3.Kids).map encTree) false))], .obj b1 1 (.str x28)] := H27
          unfold shape_render1_l30 at h
          refine WpC.seq ?_
          refine WpC.region E.obj rfl ?_
          refine wpO.val rfl (oper_bin rfl rfl binD_lss) rfl ?_
          refine wpO.nil ?_
          refine WpC.seq ?_
          refine WpC.cond rfl (fun hb31 => ?_) (fun hb31 => ?_)
          ·
            replace h := if_t hb31 h
            refine WpC.skip ?_
            refine WpC.seq ?_
            refine WpC.block ?_
            refine WpC.seq ?_
            refine WpC.region E.obj rfl ?_
            obtain ⟨z32, hzz32, h⟩ := bind_some h
            refine wpO.val rfl (oper_idx rfl rfl (idxAddr (enc := encAttr) hzz32 el25 as36 ((Attr.len _).trans sz36.symm))) rfl ?_
            refine wpO.val rfl (oper_loadE rfl (Attr.partW ag36 sz36)) rfl ?_
            refine wpO.alloc H27 rfl ob36 zo36 rfl rfl (fun b33 S34 H35 => ?_)
            refine wpO.store H35 (i := 0) rfl rfl rfl rfl (Attr.cellsA _) rfl sz36 rfl as36 rfl rfl rfl (fun S36 H37 => ?_)
            refine wpO.nil ?_
            obtain ⟨z38, hzz38, h⟩ := bind_some h
            obtain ⟨z39, hzz39, h⟩ := bind_some h
            obtain ⟨z40, hzz40, h⟩ := bind_some h
            obtain ⟨z41, hzz41, h⟩ := bind_some h
            obtain ⟨z42, hzz42, h⟩ := bind_some h
            obtain ⟨z45, hzz45, h⟩ := bind_some h
            refine WpC.drawP E.obj hmix [[(0, none)], [(5, none)], [(38, some 1)], [(39, some 2)], [(40, some 3)], [(41, some 4)], [(5, none)], [(43, some 6)], [(44, some 7)], [(42, some 5), (45, some 8)], [(37, some 0), (46, some 9)]] [(0, none), (3, none), (31, none), (32, none), (33, none)] (by kernel_rfl) [10] (by decide) [some (.ptr b1 0 0), some (.ptr b33 0 0), some (.d (.str z32.Name)), some (.d (.str z38)), some (.d (.str z39)), some (.d (.str z40)), some (.ptr b33 0 1), some (.d (.str z32.Value)), some (.d (.str z41)), some (.d (.str z42)), none] ?_
            refine ⟨[0, 1, 2, 3, 4, 5, 6, 7, 8, 9], by kernel_rfl, ?_, _, _, rfl, rfl, .step ?_⟩
            ·
              refine .cons rfl rfl rfl (.step ?_) ?_
              ·
                refine wpO.val rfl (oper_move rfl) rfl ?_
                exact wpO.nil ⟨_, _, rfl, fun _ ht => by cases ht; exact ⟨rfl, .refl _⟩⟩
              refine .cons rfl rfl rfl (.step ?_) ?_
              ·
                refine wpO.val rfl (oper_fieldAddr rfl fo36_0 nz9 rfl) rfl ?_
                exact wpO.nil ⟨_, _, rfl, fun _ ht => by cases ht; exact ⟨rfl, .refl _⟩⟩
              refine .cons rfl rfl rfl (.step ?_) ?_
              ·
                refine wpO.val rfl (oper_load H37 (i := 0) rfl rfl (part_one ag9 rfl)) rfl ?_
                exact wpO.nil ⟨_, _, rfl, fun _ ht => by cases ht; exact ⟨rfl, .refl _⟩⟩
              refine .cons rfl rfl rfl (.step ?_) ?_
              ·
                refine wpO.ret rfl (oper_callF rfl rfl) (shape_said_ok E _ _ _ hzz38 _ _ (ArgsC.eq .nil)) rfl ?_
                exact wpO.nil ⟨_, _, rfl, fun _ ht => by cases ht; exact ⟨rfl, .refl _⟩⟩
              refine .cons rfl rfl rfl (.step ?_) ?_
              ·
                refine wpO.val rfl (oper_bin rfl rfl (binD_catI hzz39)) rfl ?_
                exact wpO.nil ⟨_, _, rfl, fun _ ht => by cases ht; exact ⟨rfl, .refl _⟩⟩
              refine .cons rfl rfl rfl (.step ?_) ?_
              ·
                refine wpO.val rfl (oper_bin rfl rfl (binD_catI hzz40)) rfl ?_
                exact wpO.nil ⟨_, _, rfl, fun _ ht => by cases ht; exact ⟨rfl, .refl _⟩⟩
              refine .cons rfl rfl rfl (.step ?_) ?_
              ·
                refine wpO.val rfl (oper_fieldAddr rfl fo36_1 nz9 rfl) rfl ?_
                exact wpO.nil ⟨_, _, rfl, fun _ ht => by cases ht; exact ⟨rfl, .refl _⟩⟩
              refine .cons rfl rfl rfl (.step ?_) ?_
              ·
                refine wpO.val rfl (oper_load H37 (i := 0) rfl rfl (part_one ag9 rfl)) rfl ?_
                exact wpO.nil ⟨_, _, rfl, fun _ ht => by cases ht; exact ⟨rfl, .refl _⟩⟩
              refine .cons rfl rfl rfl (.step ?_) ?_
              ·
                refine wpO.ret rfl (oper_callF rfl rfl) (shape_said_ok E _ _ _ hzz41 _ _ (ArgsC.eq .nil)) rfl ?_
                exact wpO.nil ⟨_, _, rfl, fun _ ht => by cases ht; exact ⟨rfl, .refl _⟩⟩
              refine .cons rfl rfl rfl (.step ?_) ?_
              ·
                refine wpO.val rfl (oper_bin rfl rfl (binD_catI hzz42)) rfl ?_
                exact wpO.nil ⟨_, _, rfl, fun _ ht => by cases ht; exact ⟨rfl, .refl _⟩⟩
              exact .nil
            refine wpO.ws E.bld H37 rfl rfl (i := 2) rfl hzz45 rfl (fun S46 H47 => ?_)
            refine wpO.nil ⟨_, _, _, rfl, (fun _ ht => by cases ht; rfl), [some (.ptr b1 0 0), some (.ptr b33 0 0), some (.d (.str z32.Name)), some (.d (.str z38)), some (.d (.str z39)), some (.d (.str z40)), some (.ptr b33 0 1), some (.d (.str z32.Value)), some (.d (.str z41)), some (.d (.str z42)), some (.tup [.d (.int .i64 ((z42).length : Int)), .d .nili])], (.old (.refl _) (.old (.refl _) (.old (.refl _) (.old (.refl _) (.old (.refl _) (.old (.refl _) (.old (.refl _) (.old (.refl _) (.old (.refl _) (.old (.refl _) (.new .nil))))))))))), (fun _ ht => by cases ht; exact ⟨_, rfl, .refl _⟩), ?_⟩
            refine ⟨[], by kernel_rfl, ?_, _, rfl, ?_⟩
            ·
              exact .nil
            refine WpC.region E.obj rfl ?_
            refine wpO.val rfl (oper_bin rfl rfl binD_add) rfl ?_
            refine wpO.val rfl (oper_move rfl) rfl ?_
            refine wpO.nil ?_
            exact ⟨⟨z45, (IntKind.wrap .i64 (x29 + 1))⟩, _, _, S46, .refl _ _, .refl _, (WeakE.cons rfl (.refl _) (WeakE.cons rfl (.refl _) (WeakE.cons rfl (.refl _) (WeakE.cons rfl (.refl _) (WeakE.cons rfl (.refl _) WeakE.nil))))), H47.sel [1, 2] (by decide) rfl, h⟩
          ·
            replace h := if_f hb31 h
            refine WpC.exit ?_
            refine WpC.seq ?_
            refine WpC.region E.obj rfl ?_
            refine wpO.val rfl (oper_move rfl) rfl ?_
            obtain ⟨z50, hzz50, h⟩ := bind_some h
            refine wpO.wb E.bld H27 rfl rfl (i := 1) rfl hzz50 rfl (fun S48 H49 => ?_)
            refine wpO.nil ?_
            refine WpC.seq ?_
            refine WpC.seq ?_
            refine WpC.region E.obj rfl ?_
            refine wpO.val rfl (oper_fieldAddr rfl fo28_4 nz26 rfl) rfl ?_
            refine wpO.val rfl (oper_load H49 (i := 0) rfl rfl (part_one ag26 rfl)) rfl ?_
            refine wpO.val rfl (oper_lenL rfl es26) rfl ?_
            refine wpO.val rfl (oper_move rfl) rfl ?_
            refine wpO.nil ?_
            refine WpC.block ?_
            refine WpL.start (B := B0) (α := Str × Int) (fun k a => shape_render1_l61 (shape_render1 n) a3 k a.1 a.2 = some r) (fun a => [(0, (.ptr b1 0 0)), (52, (.d (.sl ((a3.Kids).map encTree) false))), (53, (.d (.int .i64 ((a3.Kids).length : Int)))), (54, (.d (.int .i64 a.2)))]) (fun a => [.obj b1 1 (.str a.1)]) ?_ ?_ n ⟨⟨z50, 0⟩, _, _, S48, .refl _ _, .refl _, (WeakE.cons rfl (.refl _) (WeakE.cons rfl (.refl _) (WeakE.cons rfl (.refl _) (WeakE.cons rfl (.refl _) WeakE.nil)))), H49.sel [1] (by decide) rfl, h⟩
            · intro a h; simp [shape_render1_l61] at h
            ·
              intro k61 a S57 H58 h
              obtain ⟨x59, x60⟩ := a
              replace h : shape_render1_l61 (shape_render1 n) a3 (k61 + 1) x59 x60 = some r := h
              replace H58 : Has B0 S57 [.obj b1 1 (.str x59)] := H58
              unfold shape_render1_l61 at h
              refine WpC.seq ?_
              refine WpC.region E.obj rfl ?_
              refine wpO.val rfl (oper_bin rfl rfl binD_lss) rfl ?_
              refine wpO.nil ?_
              refine WpC.seq ?_
              refine WpC.cond rfl (fun hb62 => ?_) (fun hb62 => ?_)
              ·
                replace h := if_t hb62 h
                refine WpC.skip ?_
                refine WpC.seq ?_
                refine WpC.block ?_
                refine WpC.seq ?_
                refine WpC.region E.obj rfl ?_
                obtain ⟨z63, hzz63, h⟩ := bind_some h
                refine wpO.val rfl (oper_idx rfl rfl (idxAddr (enc := encTree) hzz63 el26 as28 ((Tree.len _).trans sz28.symm))) rfl ?_
                refine wpO.val rfl (oper_loadE rfl (Tree.partW ag28 sz28)) rfl ?_
                refine wpO.alloc H58 rfl ob28 zo28 rfl rfl (fun b64 S65 H66 => ?_)
                refine wpO.store H66 (i := 0) rfl rfl rfl rfl (Tree.cellsA _) rfl sz28 rfl as28 rfl rfl rfl (fun S67 H68 => ?_)
                refine wpO.nil ?_
                refine WpC.region E.obj rfl ?_
                refine wpO.val rfl (oper_move rfl) rfl ?_
                refine wpO.val rfl (oper_load H68 (i := 0) rfl rfl (part_agg ag28 sz28 rfl)) rfl ?_
                refine wpO.less (Less.agg' (d := encTree z63) (CellsC.eq rfl (CellsC.eq rfl (CellsC.eq rfl (CellsC.eq rfl (CellsC.eq rfl .nil))))) ((Tree.eq _).trans rfl)) ?_
                obtain ⟨z69, hzz69, h⟩ := bind_some h
                refine wpO.retM (ins := [.obj b1 1 (.str x59)]) (more := [.box b64 [(.d (.str z63.Tag)), (.d (.str z63.Key)), (.d (.str z63.Text)), (.d (.sl ((z63.Attrs).map encAttr) false)), (.d (.sl ((z63.Kids).map encTree) false))]]) (H68.sel [1, 0] (by decide) rfl) rfl (oper_callF rfl rfl) (ih _ _ _ hzz69 b1) (.cons (.refl _) (.cons (.refl _) .nil)) rfl ?_
                rintro _ S70 _ ⟨rfl, rfl⟩ H71
                replace H71 : Has B0 S70 [.obj b1 1 (.str z69), .box b64 [(.d (.str z63.Tag)), (.d (.str z63.Key)), (.d (.str z63.Text)), (.d (.sl ((z63.Attrs).map encAttr) false)), (.d (.sl ((z63.Kids).map encTree) false))]] := H71
                refine wpO.nil ?_
                refine WpC.region E.obj rfl ?_
                refine wpO.val rfl (oper_bin rfl rfl binD_add) rfl ?_
                refine wpO.val rfl (oper_move rfl) rfl ?_
                refine wpO.nil ?_
                exact ⟨⟨z69, (IntKind.wrap .i64 (x60 + 1))⟩, _, _, S70, .refl _ _, .refl _, (WeakE.cons rfl (.refl _) (WeakE.cons rfl (.refl _) (WeakE.cons rfl (.refl _) (WeakE.cons rfl (.refl _) WeakE.nil)))), H71.sel [0] (by decide) rfl, h⟩
              ·
                replace h := if_f hb62 h
                refine WpC.exit ?_
                refine WpC.region E.obj rfl ?_
                refine wpO.val rfl (oper_move rfl) rfl ?_
                obtain ⟨z74, hzz74, h⟩ := bind_some h
                refine wpO.ws E.bld H58 rfl rfl (i := 0) rfl hzz74 rfl (fun S72 H73 => ?_)
                refine wpO.nil ?_
                have hr := Option.some.inj h
                subst hr
                exact ⟨_, rfl, rfl, _, _, _, .refl _, (.refl _), ⟨rfl, rfl⟩, H73.sel [0] (by decide) rfl⟩
      ·
        refine WpC.seq ?_
        refine WpC.region E.obj rfl ?_
        refine wpO.val rfl (oper_fieldAddr rfl fo28_1 nz9 rfl) rfl ?_
        refine wpO.val rfl (oper_load H14 (i := 0) rfl rfl (part_one ag9 rfl)) rfl ?_
        refine wpO.val rfl (oper_bin rfl rfl binD_sneq) rfl ?_
        refine wpO.nil ?_
        refine WpC.cond rfl (fun hb75 => ?_) (fun hb75 => ?_)
        ·
          replace h := if_t hb75 h
          refine WpC.region E.obj rfl ?_
          refine wpO.val rfl (oper_move rfl) rfl ?_
          refine wpO.val rfl (oper_fieldAddr rfl fo28_1 nz9 rfl) rfl ?_
          refine wpO.val rfl (oper_load H14 (i := 0) rfl rfl (part_one ag9 rfl)) rfl ?_
          obtain ⟨z76, hzz76, h⟩ := bind_some h
          refine wpO.ret rfl (oper_callF rfl rfl) (shape_said_ok E _ _ _ hzz76 _ _ (ArgsC.eq .nil)) rfl ?_
          obtain ⟨z77, hzz77, h⟩ := bind_some h
          refine wpO.val rfl (oper_bin rfl rfl (binD_catI hzz77)) rfl ?_
          obtain ⟨z80, hzz80, h⟩ := bind_some h
          refine wpO.ws E.bld H14 rfl rfl (i := 1) rfl hzz80 rfl (fun S78 H79 => ?_)
          refine wpO.nil ?_
          exact ⟨z80, _, _, S78, .refl _ _, .refl _, (WeakE.cons rfl (.refl _) (WeakE.cons rfl (.refl _) WeakE.nil)), H79.sel [0, 1] (by decide) rfl, h⟩
        ·
          replace h := if_f hb75 h
          refine WpC.skip ?_
          exact ⟨z15, _, _, S13, .refl _ _, .refl _, (WeakE.cons rfl (.refl _) (WeakE.cons rfl (.refl _) WeakE.nil)), H14.sel [0, 1] (by decide) rfl, h⟩
set_option maxRecDepth 20000 in
set_option maxHeartbeats 4000000 in
theorem shape_Print_ok (n : Nat) (a1 : Tree) (r : Str) (h : shape_Print n a1 = some r) : SpecC R cfg.P 7 [(encTree a1)] (.d (.str r)) := by
  unfold shape_Print at h
  refine SpecC.of_wp E.obj.toObjOk (C := cfg) Tryd.func7 rfl nm7 rfl ?_
  have H0 : Has pureSt pureSt [] := Has.pure
  refine WpC.seq ?_
  refine WpC.region E.obj rfl ?_
  refine wpO.box H0 rfl rfl rfl (Tree.cellsA _) rfl (fun b2 S3 H4 => ?_)
  refine wpO.val rfl (oper_assign rfl) rfl ?_
  refine wpO.nil ?_
  refine WpC.seq ?_
  refine WpC.seq ?_
  refine WpC.region E.obj rfl ?_
  refine wpO.val rfl (oper_load H4 (i := 0) rfl rfl (part_agg ag28 sz28 rfl)) rfl ?_
  refine wpO.less (Less.agg' (d := encTree a1) (CellsC.eq rfl (CellsC.eq rfl (CellsC.eq rfl (CellsC.eq rfl (CellsC.eq rfl .nil))))) ((Tree.eq _).trans rfl)) ?_
  obtain ⟨z5, hzz5, h⟩ := bind_some h
  refine wpO.ret rfl (oper_callF rfl rfl) (shape_Right_ok E _ _ _ hzz5 _ _ (ArgsC.eq .nil)) rfl ?_
  refine wpO.val rfl (oper_not rfl) rfl ?_
  refine wpO.nil ?_
  refine WpC.cond rfl (fun hb6 => ?_) (fun hb6 => ?_)
  ·
    replace h := if_t hb6 h
    refine WpC.seq ?_
    refine WpC.region E.obj rfl ?_
    refine wpO.val rfl (oper_assign rfl) rfl ?_
    refine wpO.nil ?_
    have hr := Option.some.inj h
    subst hr
    exact WpC.ret ⟨_, rfl, rfl, end1 (ArgsC.eq .nil)⟩
  ·
    replace h := if_f hb6 h
    refine WpC.skip ?_
    refine WpC.seq ?_
    refine WpC.region E.obj rfl ?_
    refine wpO.allocObj H4 rfl ob50 rfl (fun b7 S8 H9 => ?_)
    refine wpO.nil ?_
    refine WpC.seq ?_
    refine WpC.region E.obj rfl ?_
    refine wpO.val rfl (oper_load H9 (i := 1) rfl rfl (part_agg ag28 sz28 rfl)) rfl ?_
    refine wpO.less (Less.agg' (d := encTree a1) (CellsC.eq rfl (CellsC.eq rfl (CellsC.eq rfl (CellsC.eq rfl (CellsC.eq rfl .nil))))) ((Tree.eq _).trans rfl)) ?_
    obtain ⟨z10, hzz10, h⟩ := bind_some h
    refine wpO.retM (ins := [.obj b7 1 (.str [])]) (more := [.box b2 [(.d (.str a1.Tag)), (.d (.str a1.Key)), (.d (.str a1.Text)), (.d (.sl ((a1.Attrs).map encAttr) false)), (.d (.sl ((a1.Kids).map encTree) false))]]) (H9.sel [0, 1] (by decide) rfl) rfl (oper_callF rfl rfl) (shape_render1_ok E n _ _ _ hzz10 b7) (.cons (.refl _) (.cons (.refl _) .nil)) rfl ?_
    rintro _ S11 _ ⟨rfl, rfl⟩ H12
    replace H12 : Has pureSt S11 [.obj b7 1 (.str z10), .box b2 [(.d (.str a1.Tag)), (.d (.str a1.Key)), (.d (.str a1.Text)), (.d (.sl ((a1.Attrs).map encAttr) false)), (.d (.sl ((a1.Kids).map encTree) false))]] := H12
    refine wpO.nil ?_
    refine WpC.seq ?_
    refine WpC.region E.obj rfl ?_
    refine wpO.st E.bld H12 rfl rfl (i := 0) rfl rfl (fun S13 H14 => ?_)
    refine wpO.val rfl (oper_assign rfl) rfl ?_
    refine wpO.nil ?_
    have hr := Option.some.inj h
    subst hr
    exact WpC.ret ⟨_, rfl, rfl, end1 (ArgsC.eq .nil)⟩
end
end Pr
end Go.Ev


namespace Go.Ev
namespace Pr
set_option linter.unusedVariables false
set_option linter.unusedSimpArgs false
open Go.Proofs
section
variable {R : ObjR} (E : PrOk R)
include E
set_option maxRecDepth 20000 in
set_option maxHeartbeats 4000000 in
theorem porticolaw13_ShapePrints_ok (n : Nat) (a1 : K_Wood) (a2 : K_Wood) (a3 : Int) (a4 : Int) (r : Bool) (h : porticolaw13_ShapePrints n a1 a2 a3 a4 = some r) : SpecC R cfg.P 3 [(encK_Wood a1), (encK_Wood a2), (.int .i64 a3), (.int .i64 a4)] (.d (.bool r)) := by
  unfold porticolaw13_ShapePrints at h
  refine SpecC.of_wp (objR2 E).toObjOk (C := cfgR2) Tryd.func3 rfl nm3 rfl ?_
  have H0 : Has pureSt pureSt [] := Has.pure
  refine WpC.seq ?_
  refine WpC.region (objR2 E) rfl ?_
  refine wpO.box H0 rfl rfl rfl (K_Wood.cellsA _) rfl (fun b5 S6 H7 => ?_)
  refine wpO.box H7 rfl rfl rfl (K_Wood.cellsA _) rfl (fun b8 S9 H10 => ?_)
  refine wpO.val rfl (oper_assign rfl) rfl ?_
  refine wpO.nil ?_
  refine WpC.seq ?_
  obtain ⟨z12, hzz12, h⟩ := bind_some h
  obtain ⟨z13, hzz13, h⟩ := bind_some h
  have hT11 : ∀ x ∈ ([Fact.pure 6 [(Ev.mkAgg [(.d (.sl ((a1.Under).map (D.int .i64)) false)), (.d (.sl ((a1.Kinds).map (D.int .i64)) false)), (.d (.sl ((a1.Keys).map (D.int .i64)) false)), (.d (.sl ((a1.Texts).map (D.int .i64)) false))])] (.d (encTree z12)), Fact.pure 6 [(Ev.mkAgg [(.d (.sl ((a2.Under).map (D.int .i64)) false)), (.d (.sl ((a2.Kinds).map (D.int .i64)) false)), (.d (.sl ((a2.Keys).map (D.int .i64)) false)), (.d (.sl ((a2.Texts).map (D.int .i64)) false))])] (.d (encTree z13))] : List Fact), x.ok R cfg.P := (facts_cons (SpecC.fact (porticokeep_Wood_Tree_ok E _ _ _ hzz12) (ArgsC.seq (ArgsC.less_agg (d := encK_Wood a1) (CellsC.eq rfl (CellsC.eq rfl (CellsC.eq rfl (CellsC.eq rfl .nil)))) ((K_Wood.eq _).trans rfl)) .nil)) (facts_cons (SpecC.fact (porticokeep_Wood_Tree_ok E _ _ _ hzz13) (ArgsC.seq (ArgsC.less_agg (d := encK_Wood a2) (CellsC.eq rfl (CellsC.eq rfl (CellsC.eq rfl (CellsC.eq rfl .nil)))) ((K_Wood.eq _).trans rfl)) .nil)) facts_nil))
  have hpT11 := pureT hT11 rfl
  refine WpC.drawn2 (objR2 E) hmix hT11 (by kernel_rfl) [b5, b8] [1, 0, 1, 0, 3, 3, 4, 4] 4 5 [0, 1, 2, 3, 4, 5, 6, 7] [0, 1, 2, 3, 5, 4, 6, 7] (by kernel_rfl) (fun e S => ∃ b14 b17, WeakE [(0, (.d (encK_Wood a1))), (1, (.d (encK_Wood a2))), (2, (.d (.int .i64 a3))), (3, (.d (.int .i64 a4))), (4, (.ptr b5 0 0)), (5, (.ptr b8 0 0)), (8, (.d (.bool false))), (9, (.ptr b14 0 0)), (10, (.ptr b17 0 0)), (19, (Ev.mkAgg [(.d (.sl ((a1.Under).map (D.int .i64)) false)), (.d (.sl ((a1.Kinds).map (D.int .i64)) false)), (.d (.sl ((a1.Keys).map (D.int .i64)) false)), (.d (.sl ((a1.Texts).map (D.int .i64)) false))])), (20, (.d (encTree z12))), (21, (Ev.mkAgg [(.d (.sl ((a2.Under).map (D.int .i64)) false)), (.d (.sl ((a2.Kinds).map (D.int .i64)) false)), (.d (.sl ((a2.Keys).map (D.int .i64)) false)), (.d (.sl ((a2.Texts).map (D.int .i64)) false))])), (22, (.d (encTree z13)))] e ∧ Has pureSt S [.box b17 [(.d (.str z13.Tag)), (.d (.str z13.Key)), (.d (.str z13.Text)), (.d (.sl ((z13.Attrs).map encAttr) false)), (.d (.sl ((z13.Kids).map encTree) false))], .box b14 [(.d (.str z12.Tag)), (.d (.str z12.Key)), (.d (.str z12.Text)), (.d (.sl ((z12.Attrs).map encAttr) false)), (.d (.sl ((z12.Kids).map encTree) false))], .box b8 [(.d (.sl ((a2.Under).map (D.int .i64)) false)), (.d (.sl ((a2.Kinds).map (D.int .i64)) false)), (.d (.sl ((a2.Keys).map (D.int .i64)) false)), (.d (.sl ((a2.Texts).map (D.int .i64)) false))], .box b5 [(.d (.sl ((a1.Under).map (D.int .i64)) false)), (.d (.sl ((a1.Kinds).map (D.int .i64)) false)), (.d (.sl ((a1.Keys).map (D.int .i64)) false)), (.d (.sl ((a1.Texts).map (D.int .i64)) false))]]) ?_ ?_ ?_
  ·
    refine wpD.read rfl rfl (idsIn (L := [b5]) rfl (by simp)) rfl (oper_load H10 (i := 1) rfl rfl (part_agg ag24 sz24 rfl)) rfl ?_
    refine wpD.ret hpT11 rfl rfl (oper_callF rfl rfl) (lookT' 0 rfl rfl (by
        intro a' v' hm ha
        simp only [List.mem_cons, List.not_mem_nil, or_false, Fact.pure.injEq] at hm
        rcases hm with ⟨hf0, rfl, rfl⟩ | ⟨hf1, rfl, rfl⟩
        · rfl
        · obtain ⟨he0, ha⟩ := List.cons.inj ha; have hx0 := K_Wood.inj a2 a1 (AV.d.inj he0); have hq := hzz13; rw [hx0] at hq; rw [hzz12] at hq; rw [Option.some.inj hq])) (ArgsC.isSome (ArgsC.seq (ArgsC.less_agg (d := encK_Wood a1) (CellsC.eq rfl (CellsC.eq rfl (CellsC.eq rfl (CellsC.eq rfl .nil)))) ((K_Wood.eq _).trans rfl)) .nil)) rfl rfl rfl rfl ?_
    refine wpD.read rfl rfl (idsIn (L := [b8]) rfl (by simp)) rfl (oper_load H10 (i := 0) rfl rfl (part_agg ag24 sz24 rfl)) rfl ?_
    refine wpD.ret hpT11 rfl rfl (oper_callF rfl rfl) (lookT' 1 rfl rfl (by
        intro a' v' hm ha
        simp only [List.mem_cons, List.not_mem_nil, or_false, Fact.pure.injEq] at hm
        rcases hm with ⟨hf0, rfl, rfl⟩ | ⟨hf1, rfl, rfl⟩
        · obtain ⟨he0, ha⟩ := List.cons.inj ha; have hx0 := K_Wood.inj a1 a2 (AV.d.inj he0); have hq := hzz12; rw [hx0] at hq; rw [hzz13] at hq; rw [Option.some.inj hq]
        · rfl)) (ArgsC.isSome (ArgsC.seq (ArgsC.less_agg (d := encK_Wood a2) (CellsC.eq rfl (CellsC.eq rfl (CellsC.eq rfl (CellsC.eq rfl .nil)))) ((K_Wood.eq _).trans rfl)) .nil)) rfl rfl rfl rfl ?_
    refine wpD.alloc H10 rfl rfl ob28R2 zo28 rfl rfl (fun b14 S15 H16 => ?_)
    refine wpD.alloc H16 rfl rfl ob28R2 zo28 rfl rfl (fun b17 S18 H19 => ?_)
    refine wpD.store4 H19 (by
        intro z hz
        simp only [List.mem_cons, List.not_mem_nil, or_false] at hz
        rcases hz with rfl | rfl
        · exact H19.boxNe (i := 3) (j := 1) (by decide) rfl rfl
        · exact H19.boxNe (i := 2) (j := 1) (by decide) rfl rfl) (j := 1) rfl rfl rfl rfl rfl (Tree.cellsA _) rfl sz28 rfl as28 rfl rfl rfl (fun S20 H21 => ?_)
    refine wpD.store4 H21 (by
        intro z hz
        simp only [List.mem_cons, List.not_mem_nil, or_false] at hz
        rcases hz with rfl | rfl
        · exact H21.boxNe (i := 3) (j := 0) (by decide) rfl rfl
        · exact H21.boxNe (i := 2) (j := 0) (by decide) rfl rfl) (j := 0) rfl rfl rfl rfl rfl (Tree.cellsA _) rfl sz28 rfl as28 rfl rfl rfl (fun S22 H23 => ?_)
    exact ⟨b14, b17, (WeakE.cons rfl (.refl _) (WeakE.cons rfl (.refl _) (WeakE.cons rfl (.refl _) (WeakE.cons rfl (.refl _) (WeakE.cons rfl (.refl _) (WeakE.cons rfl (.refl _) (WeakE.cons rfl (.refl _) (WeakE.cons rfl (.refl _) (WeakE.cons rfl (.refl _) (WeakE.cons rfl (.refl _) (WeakE.cons rfl (.refl _) (WeakE.cons rfl (.refl _) (WeakE.cons rfl (.refl _) WeakE.nil))))))))))))), H23⟩
  ·
    refine wpD.read rfl rfl (idsIn (L := [b5]) rfl (by simp)) rfl (oper_load H10 (i := 1) rfl rfl (part_agg ag24 sz24 rfl)) rfl ?_
    refine wpD.ret hpT11 rfl rfl (oper_callF rfl rfl) (lookT' 0 rfl rfl (by
        intro a' v' hm ha
        simp only [List.mem_cons, List.not_mem_nil, or_false, Fact.pure.injEq] at hm
        rcases hm with ⟨hf0, rfl, rfl⟩ | ⟨hf1, rfl, rfl⟩
        · rfl
        · obtain ⟨he0, ha⟩ := List.cons.inj ha; have hx0 := K_Wood.inj a2 a1 (AV.d.inj he0); have hq := hzz13; rw [hx0] at hq; rw [hzz12] at hq; rw [Option.some.inj hq])) (ArgsC.isSome (ArgsC.seq (ArgsC.less_agg (d := encK_Wood a1) (CellsC.eq rfl (CellsC.eq rfl (CellsC.eq rfl (CellsC.eq rfl .nil)))) ((K_Wood.eq _).trans rfl)) .nil)) rfl rfl rfl rfl ?_
    refine wpD.read rfl rfl (idsIn (L := [b8]) rfl (by simp)) rfl (oper_load H10 (i := 0) rfl rfl (part_agg ag24 sz24 rfl)) rfl ?_
    refine wpD.ret hpT11 rfl rfl (oper_callF rfl rfl) (lookT' 1 rfl rfl (by
        intro a' v' hm ha
        simp only [List.mem_cons, List.not_mem_nil, or_false, Fact.pure.injEq] at hm
        rcases hm with ⟨hf0, rfl, rfl⟩ | ⟨hf1, rfl, rfl⟩
        · obtain ⟨he0, ha⟩ := List.cons.inj ha; have hx0 := K_Wood.inj a1 a2 (AV.d.inj he0); have hq := hzz12; rw [hx0] at hq; rw [hzz13] at hq; rw [Option.some.inj hq]
        · rfl)) (ArgsC.isSome (ArgsC.seq (ArgsC.less_agg (d := encK_Wood a2) (CellsC.eq rfl (CellsC.eq rfl (CellsC.eq rfl (CellsC.eq rfl .nil)))) ((K_Wood.eq _).trans rfl)) .nil)) rfl rfl rfl rfl ?_
    refine wpD.alloc H10 rfl rfl ob28R2 zo28 rfl rfl (fun b17 S15 H24 => ?_)
    refine wpD.alloc H24 rfl rfl ob28R2 zo28 rfl rfl (fun b14 S18 H25 => ?_)
    have H16 : Has pureSt S18 [.box b14 [(.d (.str [])), (.d (.str [])), (.d (.str [])), (.d .nils), (.d .nils)], .box b8 [(.d (.sl ((a2.Under).map (D.int .i64)) false)), (.d (.sl ((a2.Kinds).map (D.int .i64)) false)), (.d (.sl ((a2.Keys).map (D.int .i64)) false)), (.d (.sl ((a2.Texts).map (D.int .i64)) false))], .box b5 [(.d (.sl ((a1.Under).map (D.int .i64)) false)), (.d (.sl ((a1.Kinds).map (D.int .i64)) false)), (.d (.sl ((a1.Keys).map (D.int .i64)) false)), (.d (.sl ((a1.Texts).map (D.int .i64)) false))]] := H25.sel [0, 2, 3] (by decide) rfl
    have H19 : Has pureSt S18 [.box b17 [(.d (.str [])), (.d (.str [])), (.d (.str [])), (.d .nils), (.d .nils)], .box b14 [(.d (.str [])), (.d (.str [])), (.d (.str [])), (.d .nils), (.d .nils)], .box b8 [(.d (.sl ((a2.Under).map (D.int .i64)) false)), (.d (.sl ((a2.Kinds).map (D.int .i64)) false)), (.d (.sl ((a2.Keys).map (D.int .i64)) false)), (.d (.sl ((a2.Texts).map (D.int .i64)) false))], .box b5 [(.d (.sl ((a1.Under).map (D.int .i64)) false)), (.d (.sl ((a1.Kinds).map (D.int .i64)) false)), (.d (.sl ((a1.Keys).map (D.int .i64)) false)), (.d (.sl ((a1.Texts).map (D.int .i64)) false))]] := H25.sel [1, 0, 2, 3] (by decide) rfl
    refine wpD.store4 H19 (by
        intro z hz
        simp only [List.mem_cons, List.not_mem_nil, or_false] at hz
        rcases hz with rfl | rfl
        · exact H19.boxNe (i := 3) (j := 1) (by decide) rfl rfl
        · exact H19.boxNe (i := 2) (j := 1) (by decide) rfl rfl) (j := 1) rfl rfl rfl rfl rfl (Tree.cellsA _) rfl sz28 rfl as28 rfl rfl rfl (fun S20 H21 => ?_)
    refine wpD.store4 H21 (by
        intro z hz
        simp only [List.mem_cons, List.not_mem_nil, or_false] at hz
        rcases hz with rfl | rfl
        · exact H21.boxNe (i := 3) (j := 0) (by decide) rfl rfl
        · exact H21.boxNe (i := 2) (j := 0) (by decide) rfl rfl) (j := 0) rfl rfl rfl rfl rfl (Tree.cellsA _) rfl sz28 rfl as28 rfl rfl rfl (fun S22 H23 => ?_)
    exact ⟨b14, b17, (WeakE.cons rfl (.refl _) (WeakE.cons rfl (.refl _) (WeakE.cons rfl (.refl _) (WeakE.cons rfl (.refl _) (WeakE.cons rfl (.refl _) (WeakE.cons rfl (.refl _) (WeakE.cons rfl (.refl _) (WeakE.cons rfl (.refl _) (WeakE.cons rfl (.refl _) (WeakE.cons rfl (.refl _) (WeakE.cons rfl (.refl _) (WeakE.cons rfl (.refl _) (WeakE.cons rfl (.refl _) WeakE.nil))))))))))))), H23⟩
  rintro e26 S27 ⟨b14, b17, hw28, H29⟩
  refine WpC.weak hw28 ?_
  refine WpC.seq ?_
  obtain ⟨z31, hzz31, h⟩ := bind_some h
  obtain ⟨z32, hzz32, h⟩ := bind_some h
  refine WpC.drawP (objR2 E) hmix [[(9, none)], [(23, some 0)], [(10, none)], [(25, some 2)], [(24, some 1)], [(26, some 3)]] [(2, none), (3, none), (9, none), (10, none), (11, some 4), (12, some 5)] (by kernel_rfl) [] (by decide) [some (.d (encTree z12)), some (.d (.str z31)), some (.d (encTree z13)), some (.d (.str z32)), some (.d (.str z31)), some (.d (.str z32))] ?_
  refine ⟨[0, 1, 2, 3, 4, 5], by kernel_rfl, ?_, _, rfl, ?_⟩
  ·
    refine .cons rfl rfl rfl (.step ?_) ?_
    ·
      refine wpO.val rfl (oper_load H29 (i := 1) rfl rfl (part_agg ag28 sz28 rfl)) rfl ?_
      refine wpO.less (Less.agg' (d := encTree z12) (CellsC.eq rfl (CellsC.eq rfl (CellsC.eq rfl (CellsC.eq rfl (CellsC.eq rfl .nil))))) ((Tree.eq _).trans rfl)) ?_
      exact wpO.nil ⟨_, _, rfl, fun _ ht => by cases ht; exact ⟨rfl, .refl _⟩⟩
    refine .cons rfl rfl rfl (.step ?_) ?_
    ·
      refine wpO.ret rfl (oper_callF rfl rfl) (shape_Print_ok E _ _ _ hzz31 _ _ (ArgsC.eq .nil)) rfl ?_
      exact wpO.nil ⟨_, _, rfl, fun _ ht => by cases ht; exact ⟨rfl, .refl _⟩⟩
    refine .cons rfl rfl rfl (.step ?_) ?_
    ·
      refine wpO.val rfl (oper_load H29 (i := 0) rfl rfl (part_agg ag28 sz28 rfl)) rfl ?_
      refine wpO.less (Less.agg' (d := encTree z13) (CellsC.eq rfl (CellsC.eq rfl (CellsC.eq rfl (CellsC.eq rfl (CellsC.eq rfl .nil))))) ((Tree.eq _).trans rfl)) ?_
      exact wpO.nil ⟨_, _, rfl, fun _ ht => by cases ht; exact ⟨rfl, .refl _⟩⟩
    refine .cons rfl rfl rfl (.step ?_) ?_
    ·
      refine wpO.ret rfl (oper_callF rfl rfl) (shape_Print_ok E _ _ _ hzz32 _ _ (ArgsC.eq .nil)) rfl ?_
      exact wpO.nil ⟨_, _, rfl, fun _ ht => by cases ht; exact ⟨rfl, .refl _⟩⟩
    refine .cons rfl rfl rfl (.step ?_) ?_
    ·
      refine wpO.val rfl (oper_assign rfl) rfl ?_
      exact wpO.nil ⟨_, _, rfl, fun _ ht => by cases ht; exact ⟨rfl, .refl _⟩⟩
    refine .cons rfl rfl rfl (.step ?_) ?_
    ·
      refine wpO.val rfl (oper_assign rfl) rfl ?_
      exact wpO.nil ⟨_, _, rfl, fun _ ht => by cases ht; exact ⟨rfl, .refl _⟩⟩
    exact .nil
  refine WpC.seq ?_
  refine WpC.seq ?_
  refine WpC.region (objR2 E) rfl ?_
  refine wpO.val rfl (oper_move rfl) rfl ?_
  refine wpO.val rfl (oper_bin rfl rfl binD_seql) rfl ?_
  refine wpO.val rfl (oper_move rfl) rfl ?_
  refine wpO.groupV 3 32 (.d (.bool ((z31 == []) || (z32 == [])))) ?_ ?_
  ·
    rcases Bool.eq_false_or_eq_true ((z31 == [])) with hB33 | hB33
    ·
      refine wpO.bool hB33 ?_
      refine wpO.no rfl rfl ?_
      refine wpO.no rfl rfl ?_
      refine wpO.val rfl (oper_pick (b := true) rfl rfl) rfl ?_
      exact wpO.nil ⟨_, rfl, (WeakE.put (WeakE.push rfl (WeakE.push rfl (WeakE.put (.refl _) (Less.eq (by rw [hB33]))))) (Less.eq (by rw [hB33]; rw [Bool.true_or])))⟩
    ·
      refine wpO.bool hB33 ?_
      refine wpO.val rfl (oper_move rfl) rfl ?_
      refine wpO.val rfl (oper_bin rfl rfl binD_seql) rfl ?_
      refine wpO.val rfl (oper_pick (b := false) rfl rfl) rfl ?_
      exact wpO.nil ⟨_, rfl, (WeakE.put (WeakE.push rfl (WeakE.push rfl (WeakE.put (.refl _) (Less.eq (by rw [hB33]))))) (Less.eq (by rw [hB33]; rw [Bool.false_or])))⟩
  ·
    refine wpO.val rfl (oper_move rfl) rfl ?_
    obtain ⟨z35, hzz35, h⟩ := bind_some h
    refine wpO.groupV 8 41 (.d (.bool z35)) ?_ ?_
    ·
      rcases Bool.eq_false_or_eq_true (((z31 == []) || (z32 == []))) with hB34 | hB34
      ·
        refine wpO.bool hB34 ?_
        refine wpO.no rfl rfl ?_
        refine wpO.no rfl rfl ?_
        refine wpO.no rfl rfl ?_
        refine wpO.no rfl rfl ?_
        refine wpO.no rfl rfl ?_
        refine wpO.no rfl rfl ?_
        refine wpO.no rfl rfl ?_
        refine wpO.val rfl (oper_pick (b := true) rfl rfl) rfl ?_
        replace hzz35 := if_t hB34 hzz35
        cases hzz35
        exact wpO.nil ⟨_, rfl, (WeakE.put (WeakE.push rfl (WeakE.push rfl (WeakE.push rfl (WeakE.push rfl (WeakE.push rfl (WeakE.push rfl (WeakE.push rfl (WeakE.put (.refl _) (Less.eq (by rw [hB34])))))))))) (.refl _))⟩
      ·
        refine wpO.bool hB34 ?_
        replace hzz35 := if_f hB34 hzz35
        refine wpO.val rfl (oper_move rfl) rfl ?_
        refine wpO.val rfl (oper_move rfl) rfl ?_
        refine wpO.val rfl (oper_bin rfl rfl binD_seql) rfl ?_
        refine wpO.val rfl (oper_load H29 (i := 1) rfl rfl (part_agg ag28 sz28 rfl)) rfl ?_
        refine wpO.less (Less.agg' (d := encTree z12) (CellsC.eq rfl (CellsC.eq rfl (CellsC.eq rfl (CellsC.eq rfl (CellsC.eq rfl .nil))))) ((Tree.eq _).trans rfl)) ?_
        refine wpO.val rfl (oper_load H29 (i := 0) rfl rfl (part_agg ag28 sz28 rfl)) rfl ?_
        refine wpO.less (Less.agg' (d := encTree z13) (CellsC.eq rfl (CellsC.eq rfl (CellsC.eq rfl (CellsC.eq rfl (CellsC.eq rfl .nil))))) ((Tree.eq _).trans rfl)) ?_
        obtain ⟨z36, hzz36, hzz35⟩ := bind_some hzz35
        refine wpO.ret rfl (oper_callF rfl rfl) (porticokeep_Trees_ok E _ _ _ _ hzz36 _ _ (ArgsC.eq (ArgsC.eq .nil))) rfl ?_
        refine wpO.val rfl (oper_bin rfl rfl (binD_bneq ub4)) rfl ?_
        refine wpO.val rfl (oper_pick (b := false) rfl rfl) rfl ?_
        cases hzz35
        exact wpO.nil ⟨_, rfl, (WeakE.put (WeakE.push rfl (WeakE.push rfl (WeakE.push rfl (WeakE.push rfl (WeakE.push rfl (WeakE.push rfl (WeakE.push rfl (WeakE.put (.refl _) (Less.eq (by rw [hB34])))))))))) (.refl _))⟩
    ·
      refine wpO.nil ?_
      refine WpC.cond rfl (fun hb37 => ?_) (fun hb37 => ?_)
      ·
        replace h := if_t hb37 h
        refine WpC.seq ?_
        refine WpC.region (objR2 E) rfl ?_
        refine wpO.val rfl (oper_assign rfl) rfl ?_
        refine wpO.nil ?_
        have hr := Option.some.inj h
        subst hr
        exact WpC.ret ⟨_, rfl, rfl, end1 (ArgsC.eq .nil)⟩
      ·
        replace h := if_f hb37 h
        refine WpC.skip ?_
        refine WpC.seq ?_
        refine WpC.region (objR2 E) rfl ?_
        refine wpO.val rfl (oper_assign rfl) rfl ?_
        refine wpO.nil ?_
        refine WpC.seq ?_
        refine WpC.seq ?_
        refine WpC.region (objR2 E) rfl ?_
        refine wpO.val rfl (oper_fieldAddr rfl fo28_4 nz26 rfl) rfl ?_
        refine wpO.val rfl (oper_load H29 (i := 1) rfl rfl (part_one ag26 rfl)) rfl ?_
        refine wpO.val rfl (oper_lenL rfl es26) rfl ?_
        refine wpO.val rfl (oper_move rfl) rfl ?_
        refine wpO.nil ?_
        refine WpC.block ?_
        refine WpL.start (B := pureSt) (α := Str × Int) (fun k a => porticolaw13_ShapePrints_l48 n a3 a4 z12 z31 k a.1 a.2 = some r) (fun a => [(2, (.d (.int .i64 a3))), (3, (.d (.int .i64 a4))), (9, (.ptr b14 0 0)), (11, (.d (.str z31))), (13, (.d (.str a.1))), (43, (.d (.sl ((z12.Kids).map encTree) false))), (44, (.d (.int .i64 ((z12.Kids).length : Int)))), (45, (.d (.int .i64 a.2)))]) (fun a => [.box b14 [(.d (.str z12.Tag)), (.d (.str z12.Key)), (.d (.str z12.Text)), (.d (.sl ((z12.Attrs).map encAttr) false)), (.d (.sl ((z12.Kids).map encTree) false))]]) ?_ ?_ n ⟨⟨[], 0⟩, _, _, S27, .refl _ _, .refl _, (WeakE.cons rfl (.refl _) (WeakE.cons rfl (.refl _) (WeakE.cons rfl (.refl _) (WeakE.cons rfl (.refl _) (WeakE.cons rfl (.refl _) (WeakE.cons rfl (.refl _) (WeakE.cons rfl (.refl _) (WeakE.cons rfl (.refl _) WeakE.nil)))))))), H29.sel [1] (by decide) rfl, h⟩
        · intro a h; simp [porticolaw13_ShapePrints_l48] at h
        ·
          intro k48 a S44 H45 h
          obtain ⟨x46, x47⟩ := a
          replace h : porticolaw13_ShapePrints_l48 n a3 a4 z12 z31 (k48 + 1) x46 x47 = some r := h
          replace H45 : Has pureSt S44 [.box b14 [(.d (.str z12.Tag)), (.d (.str z12.Key)), (.d (.str z12.Text)), (.d (.sl ((z12.Attrs).map encAttr) false)), (.d (.sl ((z12.Kids).map encTree) false))]] := H45
          unfold porticolaw13_ShapePrints_l48 at h
          refine WpC.seq ?_
          refine WpC.region (objR2 E) rfl ?_
          refine wpO.val rfl (oper_bin rfl rfl binD_lss) rfl ?_
          refine wpO.nil ?_
          refine WpC.seq ?_
          refine WpC.cond rfl (fun hb49 => ?_) (fun hb49 => ?_)
          ·
            replace h := if_t hb49 h
            refine WpC.skip ?_
            refine WpC.seq ?_
            refine WpC.block ?_
            refine WpC.seq ?_
            refine WpC.region (objR2 E) rfl ?_
            obtain ⟨z50, hzz50, h⟩ := bind_some h
            refine wpO.val rfl (oper_idx rfl rfl (idxAddr (enc := encTree) hzz50 el26 as28 ((Tree.len _).trans sz28.symm))) rfl ?_
            refine wpO.val rfl (oper_loadE rfl (Tree.partW ag28 sz28)) rfl ?_
            refine wpO.alloc H45 rfl ob28R2 zo28 rfl rfl (fun b51 S52 H53 => ?_)
            refine wpO.store H53 (i := 0) rfl rfl rfl rfl (Tree.cellsA _) rfl sz28 rfl as28 rfl rfl rfl (fun S54 H55 => ?_)
            refine wpO.nil ?_
            refine WpC.region (objR2 E) rfl ?_
            refine wpO.val rfl (oper_move rfl) rfl ?_
            refine wpO.val rfl (oper_load H55 (i := 0) rfl rfl (part_agg ag28 sz28 rfl)) rfl ?_
            refine wpO.less (Less.agg' (d := encTree z50) (CellsC.eq rfl (CellsC.eq rfl (CellsC.eq rfl (CellsC.eq rfl (CellsC.eq rfl .nil))))) ((Tree.eq _).trans rfl)) ?_
            obtain ⟨z56, hzz56, h⟩ := bind_some h
            refine wpO.ret rfl (oper_callF rfl rfl) (shape_Print_ok E _ _ _ hzz56 _ _ (ArgsC.eq .nil)) rfl ?_
            obtain ⟨z57, hzz57, h⟩ := bind_some h
            refine wpO.val rfl (oper_bin rfl rfl (binD_catI hzz57)) rfl ?_
            refine wpO.val rfl (oper_assign rfl) rfl ?_
            refine wpO.nil ?_
            refine WpC.region (objR2 E) rfl ?_
            refine wpO.val rfl (oper_bin rfl rfl binD_add) rfl ?_
            refine wpO.val rfl (oper_move rfl) rfl ?_
            refine wpO.nil ?_
            exact ⟨⟨z57, (IntKind.wrap .i64 (x47 + 1))⟩, _, _, S54, .refl _ _, .refl _, (WeakE.cons rfl (.refl _) (WeakE.cons rfl (.refl _) (WeakE.cons rfl (.refl _) (WeakE.cons rfl (.refl _) (WeakE.cons rfl (.refl _) (WeakE.cons rfl (.refl _) (WeakE.cons rfl (.refl _) (WeakE.cons rfl (.refl _) WeakE.nil)))))))), H55.sel [1] (by decide) rfl, h⟩
          ·
            replace h := if_f hb49 h
            refine WpC.exit ?_
            refine WpC.seq ?_
            refine WpC.seq ?_
            refine WpC.region (objR2 E) rfl ?_
            refine wpO.val rfl (oper_fieldAddr rfl fo28_0 nz9 rfl) rfl ?_
            refine wpO.val rfl (oper_load H45 (i := 0) rfl rfl (part_one ag9 rfl)) rfl ?_
            refine wpO.val rfl (oper_bin rfl rfl binD_sneq) rfl ?_
            refine wpO.val rfl (oper_move rfl) rfl ?_
            obtain ⟨z59, hzz59, h⟩ := bind_some h
            refine wpO.groupV 20 77 (.d (.bool z59)) ?_ ?_
            ·
              rcases Bool.eq_false_or_eq_true ((!(z12.Tag == []))) with hB58 | hB58
              ·
                refine wpO.bool hB58 ?_
                replace hzz59 := if_t hB58 hzz59
                refine wpO.val rfl (oper_move rfl) rfl ?_
                refine wpO.val rfl (oper_len rfl (lenTy_str st9) rfl) rfl ?_
                refine wpO.val rfl (oper_move rfl) rfl ?_
                refine wpO.val rfl (oper_len rfl (lenTy_str st9) rfl) rfl ?_
                refine wpO.val rfl (oper_bin rfl rfl binD_add) rfl ?_
                refine wpO.val rfl (oper_bin rfl rfl binD_lss) rfl ?_
                refine wpO.val rfl (oper_move rfl) rfl ?_
                obtain ⟨z61, hzz61, hzz59⟩ := bind_some hzz59
                refine wpO.groupV 12 76 (.d (.bool z61)) ?_ ?_
                ·
                  rcases Bool.eq_false_or_eq_true ((decide (((z31).length : Int) < (IntKind.wrap .i64 (((x46).length : Int) + 3))))) with hB60 | hB60
                  ·
                    refine wpO.bool hB60 ?_
                    refine wpO.no rfl rfl ?_
                    refine wpO.no rfl rfl ?_
                    refine wpO.no rfl rfl ?_
                    refine wpO.no rfl rfl ?_
                    refine wpO.no rfl rfl ?_
                    refine wpO.no rfl rfl ?_
                    refine wpO.no rfl rfl ?_
                    refine wpO.no rfl rfl ?_
                    refine wpO.no rfl rfl ?_
                    refine wpO.no rfl rfl ?_
                    refine wpO.no rfl rfl ?_
                    refine wpO.val rfl (oper_pick (b := true) rfl rfl) rfl ?_
                    replace hzz61 := if_t hB60 hzz61
                    cases hzz61
                    exact wpO.nil ⟨_, rfl, (WeakE.put (WeakE.push rfl (WeakE.push rfl (WeakE.push rfl (WeakE.push rfl (WeakE.push rfl (WeakE.push rfl (WeakE.push rfl (WeakE.push rfl (WeakE.push rfl (WeakE.push rfl (WeakE.push rfl (WeakE.put (.refl _) (Less.eq (by rw [hB60])))))))))))))) (.refl _))⟩
                  ·
                    refine wpO.bool hB60 ?_
                    replace hzz61 := if_f hB60 hzz61
                    refine wpO.val rfl (oper_move rfl) rfl ?_
                    refine wpO.val rfl (oper_move rfl) rfl ?_
                    refine wpO.val rfl (oper_len rfl (lenTy_str st9) rfl) rfl ?_
                    refine wpO.val rfl (oper_bin rfl rfl binD_sub) rfl ?_
                    refine wpO.val rfl (oper_move rfl) rfl ?_
                    refine wpO.val rfl (oper_len rfl (lenTy_str st9) rfl) rfl ?_
                    refine wpO.val rfl (oper_bin rfl rfl binD_sub) rfl ?_
                    obtain ⟨z62, hzz62, hzz61⟩ := bind_some hzz61
                    refine wpO.val rfl (oper_scut_l rfl rfl st9 hzz62) rfl ?_
                    refine wpO.val rfl (oper_move rfl) rfl ?_
                    obtain ⟨z63, hzz63, hzz61⟩ := bind_some hzz61
                    refine wpO.val rfl (oper_bin rfl rfl (binD_catI hzz63)) rfl ?_
                    refine wpO.val rfl (oper_bin rfl rfl binD_sneq) rfl ?_
                    refine wpO.val rfl (oper_pick (b := false) rfl rfl) rfl ?_
                    cases hzz61
                    exact wpO.nil ⟨_, rfl, (WeakE.put (WeakE.push rfl (WeakE.push rfl (WeakE.push rfl (WeakE.push rfl (WeakE.push rfl (WeakE.push rfl (WeakE.push rfl (WeakE.push rfl (WeakE.push rfl (WeakE.push rfl (WeakE.push rfl (WeakE.put (.refl _) (Less.eq (by rw [hB60])))))))))))))) (.refl _))⟩
                ·
                  refine wpO.val rfl (oper_pick (b := true) rfl rfl) rfl ?_
                  cases hzz59
                  exact wpO.nil ⟨_, rfl, (WeakE.put (WeakE.push rfl (WeakE.push rfl (WeakE.push rfl (WeakE.push rfl (WeakE.push rfl (WeakE.push rfl (WeakE.push rfl (WeakE.push rfl (WeakE.put (.refl _) (Less.eq (by rw [hB58]))))))))))) (.refl _))⟩
              ·
                refine wpO.bool hB58 ?_
                refine wpO.no rfl rfl ?_
                refine wpO.no rfl rfl ?_
                refine wpO.no rfl rfl ?_
                refine wpO.no rfl rfl ?_
                refine wpO.no rfl rfl ?_
                refine wpO.no rfl rfl ?_
                refine wpO.no rfl rfl ?_
                refine wpO.no rfl rfl ?_
                refine wpO.no rfl rfl ?_
                refine wpO.no rfl rfl ?_
                refine wpO.no rfl rfl ?_
                refine wpO.no rfl rfl ?_
                refine wpO.no rfl rfl ?_
                refine wpO.no rfl rfl ?_
                refine wpO.no rfl rfl ?_
                refine wpO.no rfl rfl ?_
                refine wpO.no rfl rfl ?_
                refine wpO.no rfl rfl ?_
                refine wpO.no rfl rfl ?_
                refine wpO.val rfl (oper_pick (b := false) rfl rfl) rfl ?_
                replace hzz59 := if_f hB58 hzz59
                cases hzz59
                exact wpO.nil ⟨_, rfl, (WeakE.put (WeakE.push rfl (WeakE.push rfl (WeakE.push rfl (WeakE.push rfl (WeakE.push rfl (WeakE.push rfl (WeakE.push rfl (WeakE.push rfl (WeakE.push rfl (WeakE.push rfl (WeakE.push rfl (WeakE.push rfl (WeakE.push rfl (WeakE.push rfl (WeakE.push rfl (WeakE.push rfl (WeakE.push rfl (WeakE.push rfl (WeakE.push rfl (WeakE.put (.refl _) (Less.eq (by rw [hB58])))))))))))))))))))))) (.refl _))⟩
            ·
              refine wpO.nil ?_
              refine WpC.cond rfl (fun hb64 => ?_) (fun hb64 => ?_)
              ·
                replace h := if_t hb64 h
                refine WpC.seq ?_
                refine WpC.region (objR2 E) rfl ?_
                refine wpO.val rfl (oper_assign rfl) rfl ?_
                refine wpO.nil ?_
                have hr := Option.some.inj h
                subst hr
                exact WpC.ret ⟨_, rfl, rfl, end1 (ArgsC.eq .nil)⟩
              ·
                replace h := if_f hb64 h
                refine WpC.skip ?_
                refine WpC.seq ?_
                refine WpC.region (objR2 E) rfl ?_
                refine wpO.val rfl (oper_move rfl) rfl ?_
                obtain ⟨z65, hzz65, h⟩ := bind_some h
                refine wpO.ret rfl (oper_callF rfl rfl) (porticobook_Within_ok E _ _ _ _ _ hzz65 _ _ (ArgsC.eq (ArgsC.eq (ArgsC.eq .nil)))) rfl ?_
                refine wpO.val rfl (oper_bin rfl rfl binD_add) rfl ?_
                refine wpO.val rfl (oper_assign rfl) rfl ?_
                refine wpO.nil ?_
                refine WpC.seq ?_
                refine WpC.region (objR2 E) rfl ?_
                refine wpO.val rfl (oper_load H45 (i := 0) rfl rfl (part_agg ag28 sz28 rfl)) rfl ?_
                refine wpO.less (Less.agg' (d := encTree z12) (CellsC.eq rfl (CellsC.eq rfl (CellsC.eq rfl (CellsC.eq rfl (CellsC.eq rfl .nil))))) ((Tree.eq _).trans rfl)) ?_
                obtain ⟨z66, hzz66, h⟩ := bind_some h
                refine wpO.retN H45 rfl (oper_callF rfl rfl) (shape_Copy_okN E n _ _ hzz66) (ArgsC.eq .nil) rfl ?_
                rintro _ S68 _ ⟨v72, rfl, rfl⟩ H69
                refine wpO.alloc H69 rfl ob28R2 zo28 rfl rfl (fun b73 S74 H75 => ?_)
                refine wpO.store H75 (i := 0) rfl rfl rfl rfl (mkAgg_cells _) rfl sz28 (mkAgg_plain _) as28 rfl rfl rfl (fun S76 H77 => ?_)
                refine wpO.nil ?_
                refine WpC.join (B := pureSt) (α := Str × Str × Str × (List Attr) × (List Tree)) (fun a => porticolaw13_ShapePrints_j85 n a.1 a.2.1 a.2.2.1 a.2.2.2.1 a.2.2.2.2 = some r) (fun a => [(17, (.ptr b73 0 0))]) (fun a => [.box b73 [(.d (.str a.1)), (.d (.str a.2.1)), (.d (.str a.2.2.1)), (.d (.sl ((a.2.2.2.1).map encAttr) false)), (.d (.sl ((a.2.2.2.2).map encTree) false))]]) ?_ ?_
                ·
                  intro a S78 H79 h
                  obtain ⟨x80, x81, x82, x83, x84⟩ := a
                  replace h : porticolaw13_ShapePrints_j85 n x80 x81 x82 x83 x84 = some r := h
                  replace H79 : Has pureSt S78 [.box b73 [(.d (.str x80)), (.d (.str x81)), (.d (.str x82)), (.d (.sl ((x83).map encAttr) false)), (.d (.sl ((x84).map encTree) false))]] := H79
                  unfold porticolaw13_ShapePrints_j85 at h
                  refine WpC.seq ?_
                  refine WpC.region (objR2 E) rfl ?_
                  refine wpO.val rfl (oper_load H79 (i := 0) rfl rfl (part_agg ag28 sz28 rfl)) rfl ?_
                  refine wpO.less (Less.agg' (d := encTree (Tree.mk x80 x81 x82 x83 x84)) (CellsC.eq rfl (CellsC.eq rfl (CellsC.eq rfl (CellsC.eq rfl (CellsC.eq rfl .nil))))) ((Tree.eq _).trans rfl)) ?_
                  obtain ⟨z86, hzz86, h⟩ := bind_some h
                  refine wpO.ret rfl (oper_callF rfl rfl) (shape_Right_ok E _ _ _ hzz86 _ _ (ArgsC.eq .nil)) rfl ?_
                  refine wpO.val rfl (oper_not rfl) rfl ?_
                  refine wpO.val rfl (oper_move rfl) rfl ?_
                  obtain ⟨z88, hzz88, h⟩ := bind_some h
                  refine wpO.groupV 4 138 (.d (.bool z88)) ?_ ?_
                  ·
                    rcases Bool.eq_false_or_eq_true ((!z86)) with hB87 | hB87
                    ·
                      refine wpO.bool hB87 ?_
                      replace hzz88 := if_t hB87 hzz88
                      refine wpO.val rfl (oper_load H79 (i := 0) rfl rfl (part_agg ag28 sz28 rfl)) rfl ?_
                      refine wpO.less (Less.agg' (d := encTree (Tree.mk x80 x81 x82 x83 x84)) (CellsC.eq rfl (CellsC.eq rfl (CellsC.eq rfl (CellsC.eq rfl (CellsC.eq rfl .nil))))) ((Tree.eq _).trans rfl)) ?_
                      obtain ⟨z89, hzz89, hzz88⟩ := bind_some hzz88
                      refine wpO.ret rfl (oper_callF rfl rfl) (shape_Print_ok E _ _ _ hzz89 _ _ (ArgsC.eq .nil)) rfl ?_
                      refine wpO.val rfl (oper_bin rfl rfl binD_seql) rfl ?_
                      refine wpO.val rfl (oper_pick (b := true) rfl rfl) rfl ?_
                      cases hzz88
                      exact wpO.nil ⟨_, rfl, (WeakE.put (WeakE.push rfl (WeakE.push rfl (WeakE.push rfl (WeakE.put (.refl _) (Less.eq (by rw [hB87])))))) (.refl _))⟩
                    ·
                      refine wpO.bool hB87 ?_
                      refine wpO.no rfl rfl ?_
                      refine wpO.no rfl rfl ?_
                      refine wpO.no rfl rfl ?_
                      refine wpO.val rfl (oper_pick (b := false) rfl rfl) rfl ?_
                      replace hzz88 := if_f hB87 hzz88
                      cases hzz88
                      exact wpO.nil ⟨_, rfl, (WeakE.put (WeakE.push rfl (WeakE.push rfl (WeakE.push rfl (WeakE.put (.refl _) (Less.eq (by rw [hB87])))))) (.refl _))⟩
                  ·
                    refine wpO.val rfl (oper_move rfl) rfl ?_
                    obtain ⟨z91, hzz91, h⟩ := bind_some h
                    refine wpO.groupV 2 141 (.d (.bool z91)) ?_ ?_
                    ·
                      rcases Bool.eq_false_or_eq_true (z88) with hB90 | hB90
                      ·
                        refine wpO.bool hB90 ?_
                        replace hzz91 := if_t hB90 hzz91
                        obtain ⟨z92, hzz92, hzz91⟩ := bind_some hzz91
                        refine wpO.ret rfl (oper_callF rfl rfl) (E.porticolaw13_ShapeRuns_ok _  _ hzz92 _ _ .nil) rfl ?_
                        refine wpO.val rfl (oper_pick (b := true) rfl rfl) rfl ?_
                        cases hzz91
                        exact wpO.nil ⟨_, rfl, (WeakE.put (WeakE.push rfl (WeakE.put (.refl _) (Less.eq (by rw [hB90])))) (.refl _))⟩
                      ·
                        refine wpO.bool hB90 ?_
                        refine wpO.no rfl rfl ?_
                        refine wpO.val rfl (oper_pick (b := false) rfl rfl) rfl ?_
                        replace hzz91 := if_f hB90 hzz91
                        cases hzz91
                        exact wpO.nil ⟨_, rfl, (WeakE.put (WeakE.push rfl (WeakE.put (.refl _) (Less.eq (by rw [hB90])))) (.refl _))⟩
                    ·
                      refine wpO.val rfl (oper_assign rfl) rfl ?_
                      refine wpO.nil ?_
                      have hr := Option.some.inj h
                      subst hr
                      exact WpC.ret ⟨_, rfl, rfl, end1 (ArgsC.eq .nil)⟩
                ·
                  refine WpC.seq ?_
                  refine WpC.region (objR2 E) rfl ?_
                  refine wpO.val rfl (oper_move rfl) rfl ?_
                  obtain ⟨z93, hzz93, h⟩ := bind_some h
                  refine wpO.ret rfl (oper_callF rfl rfl) (porticobook_Within_ok E _ _ _ _ _ hzz93 _ _ (ArgsC.eq (ArgsC.eq (ArgsC.eq .nil)))) rfl ?_
                  refine wpO.nil ?_
                  refine WpC.block ?_
                  refine WpC.seq ?_
                  refine WpC.region (objR2 E) rfl ?_
                  refine wpO.val rfl (oper_bin rfl rfl binD_eql) rfl ?_
                  refine wpO.val rfl (oper_assign rfl) rfl ?_
                  refine wpO.nil ?_
                  refine WpC.cond rfl (fun hb94 => ?_) (fun hb94 => ?_)
                  ·
                    replace h := if_t hb94 h
                    refine WpC.region (objR2 E) rfl ?_
                    refine wpO.val rfl (oper_fieldAddr rfl fo28_0 nz9 rfl) rfl ?_
                    refine wpO.store H77 (i := 0) rfl rfl rfl rfl rfl rfl sz9 rfl as9 rfl rfl rfl (fun S95 H96 => ?_)
                    refine wpO.nil ?_
                    obtain ⟨SF6, HF6, hgF6⟩ := H96.freeze (objR2 E).toObjOk (i := 1) (l' := [.box b73 [(.d (.str [65])), (.d (.str z66.Key)), (.d (.str z66.Text)), (.d (.sl ((z66.Attrs).map encAttr) false)), (.d (.sl ((z66.Kids).map encTree) false))], .box b14 [(.d (.str z12.Tag)), (.d (.str z12.Key)), (.d (.str z12.Text)), (.d (.sl ((z12.Attrs).map encAttr) false)), (.d (.sl ((z12.Kids).map encTree) false))]]) rfl (.box (.cons (.same _) (.cons (.same _) (.cons (.same _) (.cons (.same _) (.cons .it .nil))))) (.same .nil))
                    exact ⟨⟨[65], z66.Key, z66.Text, z66.Attrs, z66.Kids⟩, _, _, SF6, (hgF6 _ _ [(2, (.d (.int .i64 a3))), (3, (.d (.int .i64 a4))), (9, (.ptr b14 0 0)), (11, (.d (.str z31))), (13, (.d (.str x46))), (16, (.d (.int .i64 (IntKind.wrap .i64 (1 + z65))))), (17, (.ptr b73 0 0)), (43, (.d (.sl ((z12.Kids).map encTree) false))), (44, (.d (.int .i64 ((z12.Kids).length : Int)))), (45, (.d (.int .i64 x47))), (46, (.d (.bool (decide (x47 < ((z12.Kids).length : Int)))))), (54, (.ptr b14 0 0)), (55, (.d (.str z12.Tag))), (56, (.d (.bool (!(z12.Tag == []))))), (57, (.d (.bool (!(z12.Tag == []))))), (77, (.d (.bool z59))), (78, (.d (.int .i64 a4))), (79, (.d (.int .i64 z65))), (80, (.d (.int .i64 (IntKind.wrap .i64 (1 + z65))))), (81, (.d (encTree z12))), (83, (.d (.int .i64 a3))), (84, (.d (.int .i64 z93))), (92, (.d (.bool (z93 == 0)))), (93, (.d (.bool (z93 == 0)))), (94, (.ptr b73 0 0))] (.cons rfl (.refl _) (.cons rfl (.refl _) (.cons rfl (.refl _) (.cons rfl (.refl _) (.cons rfl (.refl _) (.cons rfl (.refl _) (.cons rfl (.refl _) (.cons rfl (.refl _) (.cons rfl (.refl _) (.cons rfl (.refl _) (.cons rfl (.refl _) (.cons rfl (.refl _) (.cons rfl (.refl _) (.cons rfl (.refl _) (.cons rfl (.refl _) (.cons rfl (.refl _) (.cons rfl (.refl _) (.cons rfl (.refl _) (.cons rfl (.refl _) (.cons rfl (.refl _) (.cons rfl (.refl _) (.cons rfl (.refl _) (.cons rfl (.refl _) (.cons rfl (.refl _) (.cons rfl (.refl _) .nil)))))))))))))))))))))))))), .refl _, (WeakE.cons rfl (.refl _) WeakE.nil), HF6.sel [0] (by decide) rfl, h⟩
                  ·
                    replace h := if_f hb94 h
                    refine WpC.seq ?_
                    refine WpC.region (objR2 E) rfl ?_
                    refine wpO.val rfl (oper_bin rfl rfl binD_eql) rfl ?_
                    refine wpO.val rfl (oper_assign rfl) rfl ?_
                    refine wpO.nil ?_
                    refine WpC.cond rfl (fun hb97 => ?_) (fun hb97 => ?_)
                    ·
                      replace h := if_t hb97 h
                      refine WpC.region (objR2 E) rfl ?_
                      refine wpO.val rfl (oper_fieldAddr rfl fo28_0 nz9 rfl) rfl ?_
                      refine wpO.store H77 (i := 0) rfl rfl rfl rfl rfl rfl sz9 rfl as9 rfl rfl rfl (fun S98 H99 => ?_)
                      refine wpO.val rfl (oper_fieldAddr rfl fo28_2 nz9 rfl) rfl ?_
                      refine wpO.store H99 (i := 0) rfl rfl rfl rfl rfl rfl sz9 rfl as9 rfl rfl rfl (fun S100 H101 => ?_)
                      refine wpO.nil ?_
                      obtain ⟨SF7, HF7, hgF7⟩ := H101.freeze (objR2 E).toObjOk (i := 1) (l' := [.box b73 [(.d (.str [97])), (.d (.str z66.Key)), (.d (.str [120])), (.d (.sl ((z66.Attrs).map encAttr) false)), (.d (.sl ((z66.Kids).map encTree) false))], .box b14 [(.d (.str z12.Tag)), (.d (.str z12.Key)), (.d (.str z12.Text)), (.d (.sl ((z12.Attrs).map encAttr) false)), (.d (.sl ((z12.Kids).map encTree) false))]]) rfl (.box (.cons (.same _) (.cons (.same _) (.cons (.same _) (.cons (.same _) (.cons .it .nil))))) (.same .nil))
                      exact ⟨⟨[97], z66.Key, [120], z66.Attrs, z66.Kids⟩, _, _, SF7, (hgF7 _ _ [(2, (.d (.int .i64 a3))), (3, (.d (.int .i64 a4))), (9, (.ptr b14 0 0)), (11, (.d (.str z31))), (13, (.d (.str x46))), (16, (.d (.int .i64 (IntKind.wrap .i64 (1 + z65))))), (17, (.ptr b73 0 0)), (43, (.d (.sl ((z12.Kids).map encTree) false))), (44, (.d (.int .i64 ((z12.Kids).length : Int)))), (45, (.d (.int .i64 x47))), (46, (.d (.bool (decide (x47 < ((z12.Kids).length : Int)))))), (54, (.ptr b14 0 0)), (55, (.d (.str z12.Tag))), (56, (.d (.bool (!(z12.Tag == []))))), (57, (.d (.bool (!(z12.Tag == []))))), (77, (.d (.bool z59))), (78, (.d (.int .i64 a4))), (79, (.d (.int .i64 z65))), (80, (.d (.int .i64 (IntKind.wrap .i64 (1 + z65))))), (81, (.d (encTree z12))), (83, (.d (.int .i64 a3))), (84, (.d (.int .i64 z93))), (92, (.d (.bool (z93 == 0)))), (93, (.d (.bool (z93 == 0)))), (95, (.d (.bool (z93 == 1)))), (96, (.d (.bool (z93 == 1)))), (97, (.ptr b73 0 0)), (98, (.ptr b73 0 2))] (.cons rfl (.refl _) (.cons rfl (.refl _) (.cons rfl (.refl _) (.cons rfl (.refl _) (.cons rfl (.refl _) (.cons rfl (.refl _) (.cons rfl (.refl _) (.cons rfl (.refl _) (.cons rfl (.refl _) (.cons rfl (.refl _) (.cons rfl (.refl _) (.cons rfl (.refl _) (.cons rfl (.refl _) (.cons rfl (.refl _) (.cons rfl (.refl _) (.cons rfl (.refl _) (.cons rfl (.refl _) (.cons rfl (.refl _) (.cons rfl (.refl _) (.cons rfl (.refl _) (.cons rfl (.refl _) (.cons rfl (.refl _) (.cons rfl (.refl _) (.cons rfl (.refl _) (.cons rfl (.refl _) (.cons rfl (.refl _) (.cons rfl (.refl _) (.cons rfl (.refl _) .nil))))))))))))))))))))))))))))), .refl _, (WeakE.cons rfl (.refl _) WeakE.nil), HF7.sel [0] (by decide) rfl, h⟩
                    ·
                      replace h := if_f hb97 h
                      refine WpC.seq ?_
                      refine WpC.region (objR2 E) rfl ?_
                      refine wpO.val rfl (oper_bin rfl rfl binD_eql) rfl ?_
                      refine wpO.val rfl (oper_assign rfl) rfl ?_
                      refine wpO.nil ?_
                      refine WpC.cond rfl (fun hb102 => ?_) (fun hb102 => ?_)
                      ·
                        replace h := if_t hb102 h
                        refine WpC.region (objR2 E) rfl ?_
                        refine wpO.val rfl (oper_move rfl) rfl ?_
                        refine wpO.val rfl (oper_bin rfl rfl binD_add) rfl ?_
                        obtain ⟨z103, hzz103, h⟩ := bind_some h
                        refine wpO.rowMake (enc := (D.int .u8)) (z := 0) H77 rfl rfl rfl el34 zo5 nb5 rfl sz5 rfl rw34R2 (.cons (.refl _) .nil) rfl hzz103 rfl (fun v104 S105 H106 => ?_)
                        obtain ⟨SF8, HF8, hgF8⟩ := H106.freeze (objR2 E).toObjOk (i := 0) (l' := [.box b73 [(.d (.str z66.Tag)), (.d (.str z66.Key)), (.d (.str z66.Text)), (.d (.sl ((z66.Attrs).map encAttr) false)), v72], .row 5 v72 ((z66.Kids).map encTree), .box b14 [(.d (.str z12.Tag)), (.d (.str z12.Key)), (.d (.str z12.Text)), (.d (.sl ((z12.Attrs).map encAttr) false)), (.d (.sl ((z12.Kids).map encTree) false))]]) rfl (.same (.same (.same .nil)))
                        refine wpO.ghost (hgF8 _ _ [(2, (.d (.int .i64 a3))), (3, (.d (.int .i64 a4))), (9, (.ptr b14 0 0)), (11, (.d (.str z31))), (13, (.d (.str x46))), (16, (.d (.int .i64 (IntKind.wrap .i64 (1 + z65))))), (17, (.ptr b73 0 0)), (43, (.d (.sl ((z12.Kids).map encTree) false))), (44, (.d (.int .i64 ((z12.Kids).length : Int)))), (45, (.d (.int .i64 x47))), (46, (.d (.bool (decide (x47 < ((z12.Kids).length : Int)))))), (54, (.ptr b14 0 0)), (55, (.d (.str z12.Tag))), (56, (.d (.bool (!(z12.Tag == []))))), (57, (.d (.bool (!(z12.Tag == []))))), (77, (.d (.bool z59))), (78, (.d (.int .i64 a4))), (79, (.d (.int .i64 z65))), (80, (.d (.int .i64 (IntKind.wrap .i64 (1 + z65))))), (81, (.d (encTree z12))), (83, (.d (.int .i64 a3))), (84, (.d (.int .i64 z93))), (92, (.d (.bool (z93 == 0)))), (93, (.d (.bool (z93 == 0)))), (95, (.d (.bool (z93 == 1)))), (96, (.d (.bool (z93 == 1)))), (99, (.d (.bool (z93 == 2)))), (100, (.d (.bool (z93 == 2)))), (101, (.d (.int .i64 (IntKind.wrap .i64 (1 + z65))))), (102, (.d (.int .i64 (IntKind.wrap .i64 (64 + (IntKind.wrap .i64 (1 + z65))))))), (103, (.d (.sl ((z103).map (D.int .u8)) false)))] (.cons rfl (.refl _) (.cons rfl (.refl _) (.cons rfl (.refl _) (.cons rfl (.refl _) (.cons rfl (.refl _) (.cons rfl (.refl _) (.cons rfl (.refl _) (.cons rfl (.refl _) (.cons rfl (.refl _) (.cons rfl (.refl _) (.cons rfl (.refl _) (.cons rfl (.refl _) (.cons rfl (.refl _) (.cons rfl (.refl _) (.cons rfl (.refl _) (.cons rfl (.refl _) (.cons rfl (.refl _) (.cons rfl (.refl _) (.cons rfl (.refl _) (.cons rfl (.refl _) (.cons rfl (.refl _) (.cons rfl (.refl _) (.cons rfl (.refl _) (.cons rfl (.refl _) (.cons rfl (.refl _) (.cons rfl (.refl _) (.cons rfl (.refl _) (.cons rfl (.refl _) (.cons rfl (.refl _) (.cons rfl (.refl _) (.it rfl .nil)))))))))))))))))))))))))))))))) ?_
                        refine wpO.val rfl (oper_conv_bytes (l := z103) rfl st9 bs34R2) rfl ?_
                        refine wpO.val rfl (oper_build (cs := [(.d (.str [])), (.d (.str [])), (.d (.str ((z103).map fun (n : Int) => UInt8.ofNat n.toNat))), (.d .nils), (.d .nils)]) zo28 rfl (place_struct28R2) (fill1 rfl rfl rfl rfl rfl)) rfl ?_
                        refine wpO.less (Less.agg' (d := encTree (Tree.mk [] [] ((z103).map fun (n : Int) => UInt8.ofNat n.toNat) [] [])) (CellsC.eq rfl (CellsC.eq rfl (CellsC.eq rfl (CellsC.consW rfl (.nils false) rfl rfl (CellsC.consW rfl (.nils false) rfl rfl .nil))))) ((Tree.eq _).trans rfl)) ?_
                        refine wpO.store HF8 (i := 0) rfl rfl rfl rfl (Tree.cellsA _) rfl sz28 rfl as28 rfl rfl rfl (fun S107 H108 => ?_)
                        refine wpO.nil ?_
                        exact ⟨⟨(Tree.mk [] [] ((z103).map fun (n : Int) => UInt8.ofNat n.toNat) [] []).Tag, (Tree.mk [] [] ((z103).map fun (n : Int) => UInt8.ofNat n.toNat) [] []).Key, (Tree.mk [] [] ((z103).map fun (n : Int) => UInt8.ofNat n.toNat) [] []).Text, (Tree.mk [] [] ((z103).map fun (n : Int) => UInt8.ofNat n.toNat) [] []).Attrs, (Tree.mk [] [] ((z103).map fun (n : Int) => UInt8.ofNat n.toNat) [] []).Kids⟩, _, _, S107, .refl _ _, .refl _, (WeakE.cons rfl (.refl _) WeakE.nil), H108.sel [0] (by decide) rfl, h⟩
                      ·
                        replace h := if_f hb102 h
                        refine WpC.seq ?_
                        refine WpC.region (objR2 E) rfl ?_
                        refine wpO.val rfl (oper_bin rfl rfl binD_eql) rfl ?_
                        refine wpO.val rfl (oper_assign rfl) rfl ?_
                        refine wpO.nil ?_
                        refine WpC.cond rfl (fun hb109 => ?_) (fun hb109 => ?_)
                        ·
                          replace h := if_t hb109 h
                          refine WpC.region (objR2 E) rfl ?_
                          refine wpO.val rfl (oper_build (cs := [(.d (.str [])), (.d (.str [107])), (.d (.str [])), (.d .nils), (.d .nils)]) zo28 rfl (place_struct28R2) (fill1 rfl rfl rfl rfl rfl)) rfl ?_
                          refine wpO.less (Less.agg' (d := encTree (Tree.mk [] [107] [] [] [])) (CellsC.eq rfl (CellsC.eq rfl (CellsC.eq rfl (CellsC.consW rfl (.nils false) rfl rfl (CellsC.consW rfl (.nils false) rfl rfl .nil))))) ((Tree.eq _).trans rfl)) ?_
                          refine wpO.store H77 (i := 0) rfl rfl rfl rfl (Tree.cellsA _) rfl sz28 rfl as28 rfl rfl rfl (fun S110 H111 => ?_)
                          refine wpO.nil ?_
                          exact ⟨⟨(Tree.mk [] [107] [] [] []).Tag, (Tree.mk [] [107] [] [] []).Key, (Tree.mk [] [107] [] [] []).Text, (Tree.mk [] [107] [] [] []).Attrs, (Tree.mk [] [107] [] [] []).Kids⟩, _, _, S110, .refl _ _, .refl _, (WeakE.cons rfl (.refl _) WeakE.nil), H111.sel [0] (by decide) rfl, h⟩
                        ·
                          replace h := if_f hb109 h
                          refine WpC.seq ?_
                          refine WpC.region (objR2 E) rfl ?_
                          refine wpO.val rfl (oper_bin rfl rfl binD_eql) rfl ?_
                          refine wpO.val rfl (oper_assign rfl) rfl ?_
                          refine wpO.nil ?_
                          refine WpC.cond rfl (fun hb112 => ?_) (fun hb112 => ?_)
                          ·
                            replace h := if_t hb112 h
                            refine WpC.region (objR2 E) rfl ?_
                            refine wpO.val rfl (oper_build (cs := [(.d (.str [120])), (.d (.str []))]) zo36 rfl (place_struct36R2) (fill1 rfl rfl rfl rfl rfl)) rfl ?_
                            refine wpO.less (Less.agg' (d := encAttr (Attr.mk [120] [])) (CellsC.eq rfl (CellsC.eq rfl .nil)) ((Attr.eq _).trans rfl)) ?_
                            refine wpO.val rfl (oper_build (cs := [(.d (.str [120])), (.d (.str []))]) zo36 rfl (place_struct36R2) (fill1 rfl rfl rfl rfl rfl)) rfl ?_
                            refine wpO.less (Less.agg' (d := encAttr (Attr.mk [120] [])) (CellsC.eq rfl (CellsC.eq rfl .nil)) ((Attr.eq _).trans rfl)) ?_
                            refine wpO.val rfl (oper_buildSlice (vs := [(.d (encAttr (Attr.mk [120] []))), (.d (encAttr (Attr.mk [120] [])))]) (ds := [(encAttr (Attr.mk [120] [])), (encAttr (Attr.mk [120] []))]) rw25R2 el25 ag36 zo36 sz36 rfl (by decide) (.cons rfl (Attr.len _) (.cons rfl (Attr.len _) .nil)) rfl (by intro d hd; simp only [List.mem_cons, List.not_mem_nil, or_false] at hd; rcases hd with rfl | rfl <;> exact Attr.agg _) rfl) rfl ?_
                            refine wpO.val rfl (oper_build (cs := [(.d (.str [97])), (.d (.str [])), (.d (.str [])), (.d (.sl (([(Attr.mk [120] []), (Attr.mk [120] [])]).map encAttr) true)), (.d .nils)]) zo28 rfl (place_struct28R2) (fill1 rfl rfl rfl rfl (fill1 rfl rfl rfl rfl rfl))) rfl ?_
                            refine wpO.less (Less.agg' (d := encTree (Tree.mk [97] [] [] [(Attr.mk [120] []), (Attr.mk [120] [])] [])) (CellsC.eq rfl (CellsC.eq rfl (CellsC.eq rfl (CellsC.consW rfl (.untight _ _) rfl rfl (CellsC.consW rfl (.nils false) rfl rfl .nil))))) ((Tree.eq _).trans rfl)) ?_
                            refine wpO.store H77 (i := 0) rfl rfl rfl rfl (Tree.cellsA _) rfl sz28 rfl as28 rfl rfl rfl (fun S113 H114 => ?_)
                            refine wpO.nil ?_
                            exact ⟨⟨(Tree.mk [97] [] [] [(Attr.mk [120] []), (Attr.mk [120] [])] []).Tag, (Tree.mk [97] [] [] [(Attr.mk [120] []), (Attr.mk [120] [])] []).Key, (Tree.mk [97] [] [] [(Attr.mk [120] []), (Attr.mk [120] [])] []).Text, (Tree.mk [97] [] [] [(Attr.mk [120] []), (Attr.mk [120] [])] []).Attrs, (Tree.mk [97] [] [] [(Attr.mk [120] []), (Attr.mk [120] [])] []).Kids⟩, _, _, S113, .refl _ _, .refl _, (WeakE.cons rfl (.refl _) WeakE.nil), H114.sel [0] (by decide) rfl, h⟩
                          ·
                            replace h := if_f hb112 h
                            refine WpC.seq ?_
                            refine WpC.region (objR2 E) rfl ?_
                            refine wpO.val rfl (oper_bin rfl rfl binD_eql) rfl ?_
                            refine wpO.val rfl (oper_assign rfl) rfl ?_
                            refine wpO.nil ?_
                            refine WpC.cond rfl (fun hb115 => ?_) (fun hb115 => ?_)
                            ·
                              replace h := if_t hb115 h
                              refine WpC.region (objR2 E) rfl ?_
                              refine wpO.val rfl (oper_move rfl) rfl ?_
                              refine wpO.val rfl (oper_bin rfl rfl binD_add) rfl ?_
                              obtain ⟨z116, hzz116, h⟩ := bind_some h
                              refine wpO.rowMake (enc := encTree) (z := (Tree.mk [] [] [] [] [])) H77 rfl rfl rfl el26 zo28 nb28 rfl sz28 rfl rw26R2 (by rw [Tree.cells]; exact (.cons (.refl _) (.cons (.refl _) (.cons (.refl _) (.cons nilL (.cons nilL .nil)))))) (Tree.flat _) hzz116 rfl (fun v117 S118 H119 => ?_)
                              refine wpO.val rfl (oper_build (cs := [(.d (.str [97])), (.d (.str [])), (.d (.str [])), (.d .nils), v117]) zo28 rfl (place_struct28R2) (fill1 rfl rfl rfl rfl (fill1 rfl (plain_row H119 (i := 0) rfl) rfl rfl rfl))) rfl ?_
                              refine wpO.store H119 (i := 1) rfl rfl rfl rfl (mkAgg_cells _) rfl sz28 (mkAgg_plain _) as28 rfl rfl rfl (fun S120 H121 => ?_)
                              refine wpO.nil ?_
                              obtain ⟨SF9, HF9, hgF9⟩ := H121.freeze (objR2 E).toObjOk (i := 0) (l' := [.box b73 [(.d (.str [97])), (.d (.str [])), (.d (.str [])), (.d .nils), (.d (.sl ((z116).map encTree) false))], .row 5 v72 ((z66.Kids).map encTree), .box b14 [(.d (.str z12.Tag)), (.d (.str z12.Key)), (.d (.str z12.Text)), (.d (.sl ((z12.Attrs).map encAttr) false)), (.d (.sl ((z12.Kids).map encTree) false))]]) rfl (.box (.cons (.same _) (.cons (.same _) (.cons (.same _) (.cons (.same _) (.cons .it .nil))))) (.same (.same .nil)))
                              obtain ⟨S122, hw123, H124⟩ := HF9.weakBox (i := 0) (cs' := [(.d (.str [97])), (.d (.str [])), (.d (.str [])), (.d (.sl (([]).map encAttr) false)), (.d (.sl ((z116).map encTree) false))]) rfl (.cons (.refl _) (.cons (.refl _) (.cons (.refl _) (.cons nilL (.cons (.refl _) .nil)))))
                              exact ⟨⟨[97], [], [], [], z116⟩, _, _, S122, (hgF9 _ _ [(2, (.d (.int .i64 a3))), (3, (.d (.int .i64 a4))), (9, (.ptr b14 0 0)), (11, (.d (.str z31))), (13, (.d (.str x46))), (16, (.d (.int .i64 (IntKind.wrap .i64 (1 + z65))))), (17, (.ptr b73 0 0)), (43, (.d (.sl ((z12.Kids).map encTree) false))), (44, (.d (.int .i64 ((z12.Kids).length : Int)))), (45, (.d (.int .i64 x47))), (46, (.d (.bool (decide (x47 < ((z12.Kids).length : Int)))))), (54, (.ptr b14 0 0)), (55, (.d (.str z12.Tag))), (56, (.d (.bool (!(z12.Tag == []))))), (57, (.d (.bool (!(z12.Tag == []))))), (77, (.d (.bool z59))), (78, (.d (.int .i64 a4))), (79, (.d (.int .i64 z65))), (80, (.d (.int .i64 (IntKind.wrap .i64 (1 + z65))))), (81, (.d (encTree z12))), (83, (.d (.int .i64 a3))), (84, (.d (.int .i64 z93))), (92, (.d (.bool (z93 == 0)))), (93, (.d (.bool (z93 == 0)))), (95, (.d (.bool (z93 == 1)))), (96, (.d (.bool (z93 == 1)))), (99, (.d (.bool (z93 == 2)))), (100, (.d (.bool (z93 == 2)))), (106, (.d (.bool (z93 == 3)))), (107, (.d (.bool (z93 == 3)))), (109, (.d (.bool (z93 == 4)))), (110, (.d (.bool (z93 == 4)))), (115, (.d (.bool (z93 == 5)))), (116, (.d (.bool (z93 == 5)))), (117, (.d (.int .i64 (IntKind.wrap .i64 (1 + z65))))), (118, (.d (.int .i64 (IntKind.wrap .i64 (24 + (IntKind.wrap .i64 (1 + z65))))))), (119, (.d (.sl ((z116).map encTree) false)))] (.cons rfl (.refl _) (.cons rfl (.refl _) (.cons rfl (.refl _) (.cons rfl (.refl _) (.cons rfl (.refl _) (.cons rfl (.refl _) (.cons rfl (.refl _) (.cons rfl (.refl _) (.cons rfl (.refl _) (.cons rfl (.refl _) (.cons rfl (.refl _) (.cons rfl (.refl _) (.cons rfl (.refl _) (.cons rfl (.refl _) (.cons rfl (.refl _) (.cons rfl (.refl _) (.cons rfl (.refl _) (.cons rfl (.refl _) (.cons rfl (.refl _) (.cons rfl (.refl _) (.cons rfl (.refl _) (.cons rfl (.refl _) (.cons rfl (.refl _) (.cons rfl (.refl _) (.cons rfl (.refl _) (.cons rfl (.refl _) (.cons rfl (.refl _) (.cons rfl (.refl _) (.cons rfl (.refl _) (.cons rfl (.refl _) (.cons rfl (.refl _) (.cons rfl (.refl _) (.cons rfl (.refl _) (.cons rfl (.refl _) (.cons rfl (.refl _) (.cons rfl (.refl _) (.it rfl .nil)))))))))))))))))))))))))))))))))))))), hw123, (WeakE.cons rfl (.refl _) WeakE.nil), H124.sel [0] (by decide) rfl, h⟩
                            ·
                              replace h := if_f hb115 h
                              refine WpC.seq ?_
                              refine WpC.region (objR2 E) rfl ?_
                              refine wpO.val rfl (oper_bin rfl rfl binD_eql) rfl ?_
                              refine wpO.val rfl (oper_assign rfl) rfl ?_
                              refine wpO.nil ?_
                              refine WpC.cond rfl (fun hb125 => ?_) (fun hb125 => ?_)
                              ·
                                replace h := if_t hb125 h
                                refine WpC.seq ?_
                                refine WpC.region (objR2 E) rfl ?_
                                refine wpO.val rfl (oper_move rfl) rfl ?_
                                refine wpO.val rfl (oper_bin rfl rfl binD_add) rfl ?_
                                refine wpO.val rfl (oper_move rfl) rfl ?_
                                refine wpO.nil ?_
                                refine WpC.block ?_
                                refine WpL.start (B := pureSt) (α := Str × Str × Str × (List Attr) × (List Tree) × AV × Int) (fun k a => porticolaw13_ShapePrints_l146 n z65 k a.1 a.2.1 a.2.2.1 a.2.2.2.1 a.2.2.2.2.1 a.2.2.2.2.2.2 = some r) (fun a => [(17, (.ptr b73 0 0)), (124, (.d (.int .i64 (IntKind.wrap .i64 (12 + (IntKind.wrap .i64 (1 + z65))))))), (125, (.d (.int .i64 a.2.2.2.2.2.2)))]) (fun a => [.box b73 [(.d (.str a.1)), (.d (.str a.2.1)), (.d (.str a.2.2.1)), (.d (.sl ((a.2.2.2.1).map encAttr) false)), a.2.2.2.2.2.1], .row 5 a.2.2.2.2.2.1 ((a.2.2.2.2.1).map encTree)]) ?_ ?_ n ⟨⟨z66.Tag, z66.Key, z66.Text, z66.Attrs, z66.Kids, v72, 0⟩, _, _, S76, .refl _ _, .refl _, (WeakE.cons rfl (.refl _) (WeakE.cons rfl (.refl _) (WeakE.cons rfl (.refl _) WeakE.nil))), H77.sel [0, 1] (by decide) rfl, h⟩
                                · intro a h; simp [porticolaw13_ShapePrints_l146] at h
                                ·
                                  intro k146 a S137 H138 h
                                  obtain ⟨x139, x140, x141, x142, x143, v144, x145⟩ := a
                                  replace h : porticolaw13_ShapePrints_l146 n z65 (k146 + 1) x139 x140 x141 x142 x143 x145 = some r := h
                                  replace H138 : Has pureSt S137 [.box b73 [(.d (.str x139)), (.d (.str x140)), (.d (.str x141)), (.d (.sl ((x142).map encAttr) false)), v144], .row 5 v144 ((x143).map encTree)] := H138
                                  unfold porticolaw13_ShapePrints_l146 at h
                                  refine WpC.seq ?_
                                  refine WpC.region (objR2 E) rfl ?_
                                  refine wpO.val rfl (oper_bin rfl rfl binD_lss) rfl ?_
                                  refine wpO.nil ?_
                                  refine WpC.seq ?_
                                  refine WpC.cond rfl (fun hb147 => ?_) (fun hb147 => ?_)
                                  ·
                                    replace h := if_t hb147 h
                                    refine WpC.skip ?_
                                    refine WpC.seq ?_
                                    refine WpC.block ?_
                                    obtain ⟨SF12, HF12, hgF12⟩ := H138.freeze (objR2 E).toObjOk (i := 1) (l' := [.box b73 [(.d (.str x139)), (.d (.str x140)), (.d (.str x141)), (.d (.sl ((x142).map encAttr) false)), (.d (.sl ((x143).map encTree) false))]]) rfl (.box (.cons (.same _) (.cons (.same _) (.cons (.same _) (.cons (.same _) (.cons .it .nil))))) .nil)
                                    refine WpC.ghost (hgF12 _ _ [(17, (.ptr b73 0 0)), (124, (.d (.int .i64 (IntKind.wrap .i64 (12 + (IntKind.wrap .i64 (1 + z65))))))), (125, (.d (.int .i64 x145))), (126, (.d (.bool (decide (x145 < (IntKind.wrap .i64 (12 + (IntKind.wrap .i64 (1 + z65)))))))))] (.cons rfl (.refl _) (.cons rfl (.refl _) (.cons rfl (.refl _) (.cons rfl (.refl _) .nil))))) ?_
                                    refine WpC.region (objR2 E) rfl ?_
                                    refine wpO.val rfl (oper_load HF12 (i := 0) rfl rfl (part_agg ag28 sz28 rfl)) rfl ?_
                                    refine wpO.less (Less.agg' (d := encTree (Tree.mk x139 x140 x141 x142 x143)) (CellsC.eq rfl (CellsC.eq rfl (CellsC.eq rfl (CellsC.eq rfl (CellsC.eq rfl .nil))))) ((Tree.eq _).trans rfl)) ?_
                                    refine wpO.rowBuild (enc := encTree) (xs := [(Tree.mk x139 x140 x141 x142 x143)]) (vs := [(.d (encTree (Tree.mk x139 x140 x141 x142 x143)))]) (cs := [[(.d (.str (Tree.mk x139 x140 x141 x142 x143).Tag)), (.d (.str (Tree.mk x139 x140 x141 x142 x143).Key)), (.d (.str (Tree.mk x139 x140 x141 x142 x143).Text)), (.d (.sl (((Tree.mk x139 x140 x141 x142 x143).Attrs).map encAttr) false)), (.d (.sl (((Tree.mk x139 x140 x141 x142 x143).Kids).map encTree) false))]]) HF12 rfl rw26R2 el26 as28 zo28 sz28 rfl (by decide) (.cons (cellsP_d (Tree.cellsA _)) rfl .nil) rfl (.cons (by rw [Tree.cells]; exact .refl _) .nil) (fun z => Tree.len z) (fun x => Tree.flat x) rfl rfl (fun v148 S149 H150 => ?_)
                                    refine wpO.val rfl (oper_build (cs := [(.d (.str [97])), (.d (.str [])), (.d (.str [])), (.d .nils), v148]) zo28 rfl (place_struct28R2) (fill1 rfl rfl rfl rfl (fill1 rfl (plain_row H150 (i := 0) rfl) rfl rfl rfl))) rfl ?_
                                    refine wpO.store H150 (i := 1) rfl rfl rfl rfl (mkAgg_cells _) rfl sz28 (mkAgg_plain _) as28 rfl rfl rfl (fun S151 H152 => ?_)
                                    refine wpO.nil ?_
                                    refine WpC.region (objR2 E) rfl ?_
                                    refine wpO.val rfl (oper_bin rfl rfl binD_add) rfl ?_
                                    refine wpO.val rfl (oper_move rfl) rfl ?_
                                    refine wpO.nil ?_
                                    obtain ⟨S153, hw154, H155⟩ := H152.weakBox (i := 1) (cs' := [(.d (.str [97])), (.d (.str [])), (.d (.str [])), (.d (.sl (([]).map encAttr) false)), v148]) rfl (.cons (.refl _) (.cons (.refl _) (.cons (.refl _) (.cons nilL (.cons (.refl _) .nil)))))
                                    exact ⟨⟨[97], [], [], [], [(Tree.mk x139 x140 x141 x142 x143)], v148, (IntKind.wrap .i64 (x145 + 1))⟩, _, _, S153, .refl _ _, hw154, (WeakE.cons rfl (.refl _) (WeakE.cons rfl (.refl _) (WeakE.cons rfl (.refl _) WeakE.nil))), H155.sel [1, 0] (by decide) rfl, h⟩
                                  ·
                                    replace h := if_f hb147 h
                                    refine WpC.exit ?_
                                    obtain ⟨SF13, HF13, hgF13⟩ := H138.freeze (objR2 E).toObjOk (i := 1) (l' := [.box b73 [(.d (.str x139)), (.d (.str x140)), (.d (.str x141)), (.d (.sl ((x142).map encAttr) false)), (.d (.sl ((x143).map encTree) false))]]) rfl (.box (.cons (.same _) (.cons (.same _) (.cons (.same _) (.cons (.same _) (.cons .it .nil))))) .nil)
                                    exact ⟨⟨x139, x140, x141, x142, x143⟩, _, _, SF13, (hgF13 _ _ [(17, (.ptr b73 0 0)), (124, (.d (.int .i64 (IntKind.wrap .i64 (12 + (IntKind.wrap .i64 (1 + z65))))))), (125, (.d (.int .i64 x145))), (126, (.d (.bool (decide (x145 < (IntKind.wrap .i64 (12 + (IntKind.wrap .i64 (1 + z65)))))))))] (.cons rfl (.refl _) (.cons rfl (.refl _) (.cons rfl (.refl _) (.cons rfl (.refl _) .nil))))), .refl _, (WeakE.cons rfl (.refl _) WeakE.nil), HF13.sel [0] (by decide) rfl, h⟩
                              ·
                                replace h := if_f hb125 h
                                refine WpC.seq ?_
                                refine WpC.region (objR2 E) rfl ?_
                                obtain ⟨z156, hzz156, h⟩ := bind_some h
                                refine wpO.rowMake (enc := encTree) (z := (Tree.mk [] [] [] [] [])) H77 rfl rfl rfl el26 zo28 nb28 rfl sz28 rfl rw26R2 (by rw [Tree.cells]; exact (.cons (.refl _) (.cons (.refl _) (.cons (.refl _) (.cons nilL (.cons nilL .nil)))))) (Tree.flat _) hzz156 rfl (fun v157 S158 H159 => ?_)
                                refine wpO.val rfl (oper_build (cs := [(.d (.str [97])), (.d (.str [])), (.d (.str [])), (.d .nils), v157]) zo28 rfl (place_struct28R2) (fill1 rfl rfl rfl rfl (fill1 rfl (plain_row H159 (i := 0) rfl) rfl rfl rfl))) rfl ?_
                                refine wpO.alloc H159 rfl ob28R2 zo28 rfl rfl (fun b160 S161 H162 => ?_)
                                refine wpO.store H162 (i := 0) rfl rfl rfl rfl (mkAgg_cells _) rfl sz28 (mkAgg_plain _) as28 rfl rfl rfl (fun S163 H164 => ?_)
                                refine wpO.nil ?_
                                obtain ⟨SF14, HF14, hgF14⟩ := H164.freeze (objR2 E).toObjOk (i := 1) (l' := [.box b160 [(.d (.str [97])), (.d (.str [])), (.d (.str [])), (.d .nils), (.d (.sl ((z156).map encTree) false))], .box b73 [(.d (.str z66.Tag)), (.d (.str z66.Key)), (.d (.str z66.Text)), (.d (.sl ((z66.Attrs).map encAttr) false)), v72], .row 5 v72 ((z66.Kids).map encTree), .box b14 [(.d (.str z12.Tag)), (.d (.str z12.Key)), (.d (.str z12.Text)), (.d (.sl ((z12.Attrs).map encAttr) false)), (.d (.sl ((z12.Kids).map encTree) false))]]) rfl (.box (.cons (.same _) (.cons (.same _) (.cons (.same _) (.cons (.same _) (.cons .it .nil))))) (.same (.same (.same .nil))))
                                refine WpC.ghost (hgF14 _ _ [(2, (.d (.int .i64 a3))), (3, (.d (.int .i64 a4))), (9, (.ptr b14 0 0)), (11, (.d (.str z31))), (13, (.d (.str x46))), (16, (.d (.int .i64 (IntKind.wrap .i64 (1 + z65))))), (17, (.ptr b73 0 0)), (18, (.ptr b160 0 0)), (43, (.d (.sl ((z12.Kids).map encTree) false))), (44, (.d (.int .i64 ((z12.Kids).length : Int)))), (45, (.d (.int .i64 x47))), (46, (.d (.bool (decide (x47 < ((z12.Kids).length : Int)))))), (54, (.ptr b14 0 0)), (55, (.d (.str z12.Tag))), (56, (.d (.bool (!(z12.Tag == []))))), (57, (.d (.bool (!(z12.Tag == []))))), (77, (.d (.bool z59))), (78, (.d (.int .i64 a4))), (79, (.d (.int .i64 z65))), (80, (.d (.int .i64 (IntKind.wrap .i64 (1 + z65))))), (81, (.d (encTree z12))), (83, (.d (.int .i64 a3))), (84, (.d (.int .i64 z93))), (85, (.d (.sl ((z156).map encTree) false))), (92, (.d (.bool (z93 == 0)))), (93, (.d (.bool (z93 == 0)))), (95, (.d (.bool (z93 == 1)))), (96, (.d (.bool (z93 == 1)))), (99, (.d (.bool (z93 == 2)))), (100, (.d (.bool (z93 == 2)))), (106, (.d (.bool (z93 == 3)))), (107, (.d (.bool (z93 == 3)))), (109, (.d (.bool (z93 == 4)))), (110, (.d (.bool (z93 == 4)))), (115, (.d (.bool (z93 == 5)))), (116, (.d (.bool (z93 == 5)))), (121, (.d (.bool (z93 == 6)))), (122, (.d (.bool (z93 == 6))))] (.cons rfl (.refl _) (.cons rfl (.refl _) (.cons rfl (.refl _) (.cons rfl (.refl _) (.cons rfl (.refl _) (.cons rfl (.refl _) (.cons rfl (.refl _) (.cons rfl (.refl _) (.cons rfl (.refl _) (.cons rfl (.refl _) (.cons rfl (.refl _) (.cons rfl (.refl _) (.cons rfl (.refl _) (.cons rfl (.refl _) (.cons rfl (.refl _) (.cons rfl (.refl _) (.cons rfl (.refl _) (.cons rfl (.refl _) (.cons rfl (.refl _) (.cons rfl (.refl _) (.cons rfl (.refl _) (.cons rfl (.refl _) (.cons rfl (.refl _) (.it rfl (.cons rfl (.refl _) (.cons rfl (.refl _) (.cons rfl (.refl _) (.cons rfl (.refl _) (.cons rfl (.refl _) (.cons rfl (.refl _) (.cons rfl (.refl _) (.cons rfl (.refl _) (.cons rfl (.refl _) (.cons rfl (.refl _) (.cons rfl (.refl _) (.cons rfl (.refl _) (.cons rfl (.refl _) (.cons rfl (.refl _) .nil))))))))))))))))))))))))))))))))))))))) ?_
                                refine WpC.region (objR2 E) rfl ?_
                                refine wpO.val rfl (oper_load HF14 (i := 0) rfl rfl (part_agg ag28 sz28 rfl)) rfl ?_
                                refine wpO.less (Less.agg' (d := encTree (Tree.mk [97] [] [] [] z156)) (CellsC.eq rfl (CellsC.eq rfl (CellsC.eq rfl (CellsC.consW rfl (.nils false) rfl rfl (CellsC.eq rfl .nil))))) ((Tree.eq _).trans rfl)) ?_
                                refine wpO.val rfl (oper_load HF14 (i := 0) rfl rfl (part_agg ag28 sz28 rfl)) rfl ?_
                                refine wpO.less (Less.agg' (d := encTree (Tree.mk [97] [] [] [] z156)) (CellsC.eq rfl (CellsC.eq rfl (CellsC.eq rfl (CellsC.consW rfl (.nils false) rfl rfl (CellsC.eq rfl .nil))))) ((Tree.eq _).trans rfl)) ?_
                                refine wpO.val rfl (oper_load HF14 (i := 0) rfl rfl (part_agg ag28 sz28 rfl)) rfl ?_
                                refine wpO.less (Less.agg' (d := encTree (Tree.mk [97] [] [] [] z156)) (CellsC.eq rfl (CellsC.eq rfl (CellsC.eq rfl (CellsC.consW rfl (.nils false) rfl rfl (CellsC.eq rfl .nil))))) ((Tree.eq _).trans rfl)) ?_
                                refine wpO.rowBuild (enc := encTree) (xs := [(Tree.mk [97] [] [] [] z156), (Tree.mk [97] [] [] [] z156), (Tree.mk [97] [] [] [] z156)]) (vs := [(.d (encTree (Tree.mk [97] [] [] [] z156))), (.d (encTree (Tree.mk [97] [] [] [] z156))), (.d (encTree (Tree.mk [97] [] [] [] z156)))]) (cs := [[(.d (.str (Tree.mk [97] [] [] [] z156).Tag)), (.d (.str (Tree.mk [97] [] [] [] z156).Key)), (.d (.str (Tree.mk [97] [] [] [] z156).Text)), (.d (.sl (((Tree.mk [97] [] [] [] z156).Attrs).map encAttr) false)), (.d (.sl (((Tree.mk [97] [] [] [] z156).Kids).map encTree) false))], [(.d (.str (Tree.mk [97] [] [] [] z156).Tag)), (.d (.str (Tree.mk [97] [] [] [] z156).Key)), (.d (.str (Tree.mk [97] [] [] [] z156).Text)), (.d (.sl (((Tree.mk [97] [] [] [] z156).Attrs).map encAttr) false)), (.d (.sl (((Tree.mk [97] [] [] [] z156).Kids).map encTree) false))], [(.d (.str (Tree.mk [97] [] [] [] z156).Tag)), (.d (.str (Tree.mk [97] [] [] [] z156).Key)), (.d (.str (Tree.mk [97] [] [] [] z156).Text)), (.d (.sl (((Tree.mk [97] [] [] [] z156).Attrs).map encAttr) false)), (.d (.sl (((Tree.mk [97] [] [] [] z156).Kids).map encTree) false))]]) HF14 rfl rw26R2 el26 as28 zo28 sz28 rfl (by decide) (.cons (cellsP_d (Tree.cellsA _)) rfl (.cons (cellsP_d (Tree.cellsA _)) rfl (.cons (cellsP_d (Tree.cellsA _)) rfl .nil))) rfl (.cons (by rw [Tree.cells]; exact .refl _) (.cons (by rw [Tree.cells]; exact .refl _) (.cons (by rw [Tree.cells]; exact .refl _) .nil))) (fun z => Tree.len z) (fun x => Tree.flat x) rfl rfl (fun v165 S166 H167 => ?_)
                                refine wpO.val rfl (oper_build (cs := [(.d (.str [97])), (.d (.str [])), (.d (.str [])), (.d .nils), v165]) zo28 rfl (place_struct28R2) (fill1 rfl rfl rfl rfl (fill1 rfl (plain_row H167 (i := 0) rfl) rfl rfl rfl))) rfl ?_
                                refine wpO.store H167 (i := 2) rfl rfl rfl rfl (mkAgg_cells _) rfl sz28 (mkAgg_plain _) as28 rfl rfl rfl (fun S168 H169 => ?_)
                                refine wpO.nil ?_
                                obtain ⟨SF15, HF15, hgF15⟩ := H169.freeze (objR2 E).toObjOk (i := 0) (l' := [.box b160 [(.d (.str [97])), (.d (.str [])), (.d (.str [])), (.d .nils), (.d (.sl ((z156).map encTree) false))], .box b73 [(.d (.str [97])), (.d (.str [])), (.d (.str [])), (.d .nils), (.d (.sl (([(Tree.mk [97] [] [] [] z156), (Tree.mk [97] [] [] [] z156), (Tree.mk [97] [] [] [] z156)]).map encTree) false))], .row 5 v72 ((z66.Kids).map encTree), .box b14 [(.d (.str z12.Tag)), (.d (.str z12.Key)), (.d (.str z12.Text)), (.d (.sl ((z12.Attrs).map encAttr) false)), (.d (.sl ((z12.Kids).map encTree) false))]]) rfl (.same (.box (.cons (.same _) (.cons (.same _) (.cons (.same _) (.cons (.same _) (.cons .it .nil))))) (.same (.same .nil))))
                                obtain ⟨S170, hw171, H172⟩ := HF15.weakBox (i := 1) (cs' := [(.d (.str [97])), (.d (.str [])), (.d (.str [])), (.d (.sl (([]).map encAttr) false)), (.d (.sl (([(Tree.mk [97] [] [] [] z156), (Tree.mk [97] [] [] [] z156), (Tree.mk [97] [] [] [] z156)]).map encTree) false))]) rfl (.cons (.refl _) (.cons (.refl _) (.cons (.refl _) (.cons nilL (.cons (.refl _) .nil)))))
                                exact ⟨⟨[97], [], [], [], [(Tree.mk [97] [] [] [] z156), (Tree.mk [97] [] [] [] z156), (Tree.mk [97] [] [] [] z156)]⟩, _, _, S170, (hgF15 _ _ [(2, (.d (.int .i64 a3))), (3, (.d (.int .i64 a4))), (9, (.ptr b14 0 0)), (11, (.d (.str z31))), (13, (.d (.str x46))), (16, (.d (.int .i64 (IntKind.wrap .i64 (1 + z65))))), (17, (.ptr b73 0 0)), (18, (.ptr b160 0 0)), (43, (.d (.sl ((z12.Kids).map encTree) false))), (44, (.d (.int .i64 ((z12.Kids).length : Int)))), (45, (.d (.int .i64 x47))), (46, (.d (.bool (decide (x47 < ((z12.Kids).length : Int)))))), (54, (.ptr b14 0 0)), (55, (.d (.str z12.Tag))), (56, (.d (.bool (!(z12.Tag == []))))), (57, (.d (.bool (!(z12.Tag == []))))), (77, (.d (.bool z59))), (78, (.d (.int .i64 a4))), (79, (.d (.int .i64 z65))), (80, (.d (.int .i64 (IntKind.wrap .i64 (1 + z65))))), (81, (.d (encTree z12))), (83, (.d (.int .i64 a3))), (84, (.d (.int .i64 z93))), (85, (.d (.sl ((z156).map encTree) false))), (87, (.d (encTree (Tree.mk [97] [] [] [] z156)))), (88, (.d (encTree (Tree.mk [97] [] [] [] z156)))), (89, (.d (encTree (Tree.mk [97] [] [] [] z156)))), (90, (.d (.sl (([(Tree.mk [97] [] [] [] z156), (Tree.mk [97] [] [] [] z156), (Tree.mk [97] [] [] [] z156)]).map encTree) false))), (92, (.d (.bool (z93 == 0)))), (93, (.d (.bool (z93 == 0)))), (95, (.d (.bool (z93 == 1)))), (96, (.d (.bool (z93 == 1)))), (99, (.d (.bool (z93 == 2)))), (100, (.d (.bool (z93 == 2)))), (106, (.d (.bool (z93 == 3)))), (107, (.d (.bool (z93 == 3)))), (109, (.d (.bool (z93 == 4)))), (110, (.d (.bool (z93 == 4)))), (115, (.d (.bool (z93 == 5)))), (116, (.d (.bool (z93 == 5)))), (121, (.d (.bool (z93 == 6)))), (122, (.d (.bool (z93 == 6))))] (.cons rfl (.refl _) (.cons rfl (.refl _) (.cons rfl (.refl _) (.cons rfl (.refl _) (.cons rfl (.refl _) (.cons rfl (.refl _) (.cons rfl (.refl _) (.cons rfl (.refl _) (.cons rfl (.refl _) (.cons rfl (.refl _) (.cons rfl (.refl _) (.cons rfl (.refl _) (.cons rfl (.refl _) (.cons rfl (.refl _) (.cons rfl (.refl _) (.cons rfl (.refl _) (.cons rfl (.refl _) (.cons rfl (.refl _) (.cons rfl (.refl _) (.cons rfl (.refl _) (.cons rfl (.refl _) (.cons rfl (.refl _) (.cons rfl (.refl _) (.cons rfl (.refl _) (.cons rfl (.refl _) (.cons rfl (.refl _) (.cons rfl (.refl _) (.it rfl (.cons rfl (.refl _) (.cons rfl (.refl _) (.cons rfl (.refl _) (.cons rfl (.refl _) (.cons rfl (.refl _) (.cons rfl (.refl _) (.cons rfl (.refl _) (.cons rfl (.refl _) (.cons rfl (.refl _) (.cons rfl (.refl _) (.cons rfl (.refl _) (.cons rfl (.refl _) (.cons rfl (.refl _) (.cons rfl (.refl _) .nil))))))))))))))))))))))))))))))))))))))))))), hw171, (WeakE.cons rfl (.refl _) WeakE.nil), H172.sel [1] (by decide) rfl, h⟩
end
end Pr
end Go.Ev


namespace Go.Ev
namespace Pr
set_option linter.unusedVariables false
set_option linter.unusedSimpArgs false

/-! ### Laws of what the functions are made of -/
theorem w64 {n : Int} (h0 : -9223372036854775808 ≤ n) (h1 : n ≤ 9223372036854775807) : IntKind.wrap .i64 n = n := Go.IntWalk.i64_in n ⟨h0, h1⟩
theorem idx_nat {α : Type} (l : List α) (i : Nat) : idx l (i : Int) = l[i]? := by
  unfold idx
  rw [if_pos (by omega)]
  simp
theorem idx_mid {α : Type} {l done rest : List α} {z : α} (h : l = done ++ z :: rest) : idx l (done.length : Int) = some z := by
  rw [idx_nat, h]; simp
theorem idx_in {α : Type} (l : List α) {i : Int} (h0 : 0 ≤ i) (h1 : i < l.length) : ∃ x, idx l i = some x ∧ x ∈ l ∧ l[i.toNat]? = some x := by
  obtain ⟨j, rfl⟩ := Int.eq_ofNat_of_zero_le h0
  have hj : j < l.length := by omega
  exact ⟨l[j], by rw [idx_nat]; exact List.getElem?_eq_getElem hj, List.getElem_mem hj, by simp [hj]⟩
theorem app_ok {α : Type} {nb : Nat} {l ys : List α} (h : (l.length + ys.length) * nb ≤ bound) : app nb l ys = some (l ++ ys) := by
  unfold app; rw [if_pos h]
theorem remI_ok {k : IntKind} {a b : Int} (h : b ≠ 0) : remI k a b = some (a.tmod b) := by
  unfold remI; rw [if_neg h]
theorem bnd : bound = 70368744177664 := rfl
end Pr
end Go.Ev


namespace Go.Ev
namespace Pr
set_option linter.unusedVariables false
set_option linter.unusedSimpArgs false

mutual
def tcnt : Tree → Nat
  | .mk _ _ _ _ ks => 1 + lcnt ks
def lcnt : List Tree → Nat
  | [] => 0
  | t :: l => tcnt t + lcnt l
end
mutual
def tdep : Tree → Nat
  | .mk _ _ _ _ ks => 1 + ldep ks
def ldep : List Tree → Nat
  | [] => 0
  | t :: l => max (tdep t) (ldep l)
end
def isOut (s : Str) : Nat := if s = [111, 117, 116, 108, 101, 116] then 1 else 0
mutual
def tslo : Tree → Nat
  | .mk g _ _ _ ks => isOut g + lslo ks
def lslo : List Tree → Nat
  | [] => 0
  | t :: l => tslo t + lslo l
end
theorem tcnt_kids (t : Tree) : tcnt t = 1 + lcnt t.Kids := by cases t; rw [tcnt]; rfl
theorem tdep_kids (t : Tree) : tdep t = 1 + ldep t.Kids := by cases t; rw [tdep]; rfl
theorem lcnt_len : ∀ (l : List Tree), l.length ≤ lcnt l
  | [] => Nat.le_refl _
  | x :: l => by
    have := lcnt_len l
    have := tcnt_kids x
    simp only [List.length_cons, lcnt]; omega
theorem lcnt_mem : ∀ {l : List Tree} {z : Tree}, z ∈ l → tcnt z ≤ lcnt l
  | x :: l, z, h => by
    rcases List.mem_cons.1 h with rfl | h
    · simp only [lcnt]; omega
    · have := lcnt_mem h
      simp only [lcnt]; omega
theorem lcnt_mem' {t z : Tree} (h : z ∈ t.Kids) : tcnt z < tcnt t := by
  have := lcnt_mem h
  have := tcnt_kids t; omega
theorem ldep_le : ∀ (l : List Tree), ldep l ≤ lcnt l ∧ ∀ z ∈ l, tdep z ≤ ldep l
  | [] => ⟨Nat.le_refl _, fun z h => by cases h⟩
  | x :: l => by
    obtain ⟨h1, h2⟩ := ldep_le l
    have hx : tdep x ≤ tcnt x := by
      cases x with
      | mk a b c d ks =>
        have := (ldep_le ks).1
        rw [tdep, tcnt]; omega
    refine ⟨by simp only [ldep, lcnt]; omega, fun z h => ?_⟩
    rcases List.mem_cons.1 h with rfl | h
    · simp only [ldep]; omega
    · have := h2 z h
      simp only [ldep]; omega
/-- What is done for each kid, by the function itself. -/
theorem kids_of {t : Tree} {m : Nat} {α : Type} {f : Nat → Tree → Option α} {g : Tree → α} (ht : tcnt t ≤ m + 1) (ih : ∀ z, tcnt z ≤ m → ∀ n, m < n → f n z = some (g z)) {n : Nat} (hn : m < n) : ∀ z ∈ t.Kids, f n z = some (g z) :=
  fun z hz => ih z (by have := lcnt_mem' hz; omega) n hn

theorem count_loop (self : Tree → Option Int) (t : Tree) (hs : ∀ z ∈ t.Kids, self z = some (tcnt z : Int)) (hb : lcnt t.Kids < 1000000000) : ∀ (rest done : List Tree) (k : Nat) (acc : Int), t.Kids = done ++ rest → rest.length < k → 0 ≤ acc → acc + lcnt rest < 2000000000 →
    shape_Count_l15 self t k acc (done.length : Int) = some (acc + lcnt rest)
  | [], done, k + 1, acc, hk, _, h0, h1 => by
    rw [shape_Count_l15, if_neg (by rw [hk]; simp)]
    simp [lcnt]
  | z :: rest, done, k + 1, acc, hk, hl, h0, h1 => by
    have hlen := lcnt_len t.Kids
    have hkl : t.Kids.length = done.length + rest.length + 1 := by rw [hk]; simp; omega
    have hz : z ∈ t.Kids := by rw [hk]; simp
    simp only [lcnt] at h1
    rw [shape_Count_l15, if_pos (by rw [decide_eq_true_eq, hkl]; omega), idx_mid hk, Option.bind_some, hs z hz, Option.bind_some]
    rw [w64 (by omega) (by omega), w64 (by omega) (by omega)]
    have := count_loop self t hs hb rest (done ++ [z]) k (acc + tcnt z) (by rw [hk]; simp) (by simp at hl; omega) (by omega) (by omega)
    rw [List.length_append, List.length_singleton] at this
    push_cast at this
    rw [this, lcnt]
    congr 1
    push_cast; omega

theorem count_ok : ∀ (m : Nat) (t : Tree), tcnt t ≤ m → m < 1000000000 → ∀ n, m < n → shape_Count n t = some (tcnt t : Int)
  | 0, t, h, _, n, _ => by rw [tcnt_kids] at h; omega
  | m + 1, t, h, hm, n + 1, hn => by
    have hs := kids_of (f := shape_Count) (g := fun z => (tcnt z : Int)) h (fun z hz n hn => count_ok m z hz (by omega) n hn) (show m < n by omega)
    have hk := tcnt_kids t
    have hlen := lcnt_len t.Kids
    rw [shape_Count]
    have := count_loop (shape_Count n) t hs (by omega) t.Kids [] n 1 rfl (by omega) (by omega) (by omega)
    simp only [List.length_nil] at this
    rw [show ((0 : Nat) : Int) = 0 from rfl] at this
    rw [this, hk]; push_cast; rfl

theorem deep_loop (self : Tree → Option Int) (t : Tree) (hs : ∀ z ∈ t.Kids, self z = some (tdep z : Int)) (hb : lcnt t.Kids < 1000000000) : ∀ (rest done : List Tree) (k : Nat) (acc : Nat), t.Kids = done ++ rest → rest.length < k → acc < 1000000000 →
    shape_Deep_l15 self t k (acc : Int) (done.length : Int) = some ((max acc (ldep rest) + 1 : Nat) : Int)
  | [], done, k + 1, acc, hk, _, h1 => by
    rw [shape_Deep_l15, if_neg (by rw [hk]; simp), w64 (by omega) (by omega)]
    simp [ldep]
  | z :: rest, done, k + 1, acc, hk, hl, h1 => by
    have hlen := lcnt_len t.Kids
    have hkl : t.Kids.length = done.length + rest.length + 1 := by rw [hk]; simp; omega
    have hz : z ∈ t.Kids := by rw [hk]; simp
    have hd := (ldep_le t.Kids).2 z hz
    have hd2 := (ldep_le t.Kids).1
    rw [shape_Deep_l15, if_pos (by rw [decide_eq_true_eq, hkl]; omega), idx_mid hk, Option.bind_some, hs z hz, Option.bind_some]
    rw [w64 (by omega) (by omega)]
    have hm : maxI (acc : Int) (tdep z : Int) = ((max acc (tdep z) : Nat) : Int) := by
      unfold maxI; split <;> omega
    have := deep_loop self t hs hb rest (done ++ [z]) k (max acc (tdep z)) (by rw [hk]; simp) (by simp at hl; omega) (by omega)
    rw [List.length_append, List.length_singleton] at this
    rw [hm]
    push_cast at this ⊢
    rw [this, ldep]
    congr 1
    omega
theorem deep_ok : ∀ (m : Nat) (t : Tree), tcnt t ≤ m → m < 1000000000 → ∀ n, m < n → shape_Deep n t = some (tdep t : Int)
  | 0, t, h, _, n, _ => by rw [tcnt_kids] at h; omega
  | m + 1, t, h, hm, n + 1, hn => by
    have hs := kids_of (f := shape_Deep) (g := fun z => (tdep z : Int)) h (fun z hz n hn => deep_ok m z hz (by omega) n hn) (show m < n by omega)
    have hk := tcnt_kids t
    have hlen := lcnt_len t.Kids
    rw [shape_Deep]
    have := deep_loop (shape_Deep n) t hs (by omega) t.Kids [] n 0 rfl (by omega) (by omega)
    simp only [List.length_nil] at this
    rw [show ((0 : Nat) : Int) = 0 from rfl] at this
    rw [this, tdep_kids]; congr 1; push_cast; omega

end Pr
end Go.Ev


namespace Go.Ev
namespace Pr
set_option linter.unusedVariables false
set_option linter.unusedSimpArgs false

/-- Nodes and attributes. -/
def tsz : Tree → Nat
  | .mk _ _ _ ats ks => 1 + ats.length + lsz ks
  where lsz : List Tree → Nat
  | [] => 0
  | t :: l => tsz t + lsz l
theorem tsz_kids (t : Tree) : tsz t = 1 + t.Attrs.length + tsz.lsz t.Kids := by cases t; rw [tsz]; rfl
theorem lsz_mem : ∀ {l : List Tree} {z : Tree}, z ∈ l → tsz z ≤ tsz.lsz l
  | x :: l, z, h => by
    rcases List.mem_cons.1 h with rfl | h
    · simp only [tsz.lsz]; omega
    · have := lsz_mem h
      simp only [tsz.lsz]; omega
theorem lsz_len : ∀ (l : List Tree), l.length ≤ tsz.lsz l
  | [] => Nat.zero_le _
  | x :: l => by
    have := lsz_len l
    have := tsz_kids x
    simp only [List.length_cons, tsz.lsz]; omega
theorem lsz_mem' {t z : Tree} (h : z ∈ t.Kids) : tsz z < tsz t := by
  have := lsz_mem h
  have := tsz_kids t; omega
theorem tree_eta (t : Tree) : Tree.mk t.Tag t.Key t.Text t.Attrs t.Kids = t := by cases t; rfl

/-! ### A copy -/
theorem set_self {α : Type} {l : List α} {i : Int} {z : α} (h : idx l i = some z) : setI l i z = l := by
  obtain ⟨h0, h1⟩ := idx_some h
  unfold setI
  apply List.ext_getElem?
  intro j
  rw [List.getElem?_set]
  by_cases hj : i.toNat = j
  · subst hj
    have hlt := (List.getElem?_eq_some_iff.1 h1).1
    simp [hlt, h1]
    exact ((List.getElem?_eq_some_iff.1 h1).2).symm
  · simp [hj]
theorem copy_loop (self : Tree → Option Tree) (t : Tree) (ats : List Attr) (hs : ∀ z ∈ t.Kids, self z = some z) (hb : t.Kids.length < 1000000000) : ∀ (rest done : List Tree) (k : Nat), t.Kids = done ++ rest → rest.length < k →
    shape_Copy_l29 self t ats t.Kids k t.Kids (done.length : Int) = some (Tree.mk t.Tag t.Key t.Text ats t.Kids)
  | [], done, k + 1, hk, _ => by
    rw [shape_Copy_l29, if_neg (by rw [hk]; simp)]
  | z :: rest, done, k + 1, hk, hl => by
    have hkl : t.Kids.length = done.length + rest.length + 1 := by rw [hk]; simp; omega
    have hz : z ∈ t.Kids := by rw [hk]; simp
    rw [shape_Copy_l29, if_pos (by rw [decide_eq_true_eq, hkl]; omega), idx_mid hk, Option.bind_some, hs z hz, Option.bind_some, Option.bind_some]
    rw [w64 (by omega) (by omega), set_self (idx_mid hk)]
    have := copy_loop self t ats hs hb rest (done ++ [z]) k (by rw [hk]; simp) (by simp at hl; omega)
    rw [List.length_append, List.length_singleton] at this
    push_cast at this
    exact this
theorem copy_ok : ∀ (m : Nat) (t : Tree), tsz t ≤ m → m < 1000000 → ∀ n, m < n → shape_Copy n t = some t
  | 0, t, h, _, n, _ => by rw [tsz_kids] at h; omega
  | m + 1, t, h, hm, n + 1, hn => by
    have hs : ∀ z ∈ t.Kids, shape_Copy n z = some z := fun z hz => copy_ok m z (by have := lsz_mem' hz; omega) (by omega) n (by omega)
    have hk := tsz_kids t
    have hlen := lsz_len t.Kids
    rw [shape_Copy]
    unfold slices_Clone__api_Attr_api_Attr_ slices_Clone__api_Tree_api_Tree_
    rw [app_ok (by rw [bnd]; simp only [List.length_nil]; omega), Option.bind_some, app_ok (by rw [bnd]; simp only [List.length_nil]; omega), Option.bind_some, List.nil_append, List.nil_append]
    have := copy_loop (shape_Copy n) t t.Attrs hs (by omega) t.Kids [] n rfl (by omega)
    simp only [List.length_nil] at this
    rw [show ((0 : Nat) : Int) = 0 from rfl] at this
    rw [this, tree_eta]

/-! ### Are they the same? -/
def abeq : List Attr → List Attr → Bool
  | [], [] => true
  | a :: l, b :: m => Attr.beq a b && abeq l m
  | _, _ => false
def tbeq : Tree → Tree → Bool
  | .mk a b c d e, .mk a' b' c' d' e' => (a == a') && (b == b') && (c == c') && abeq d d' && lbeq e e'
  where lbeq : List Tree → List Tree → Bool
  | [], [] => true
  | x :: l, y :: m => tbeq x y && lbeq l m
  | _, _ => false
theorem abeq_len : ∀ {a b : List Attr}, abeq a b = true → a.length = b.length
  | [], [], _ => rfl
  | x :: l, y :: m, h => by
    simp only [abeq, Bool.and_eq_true] at h
    simp [abeq_len h.2]
  | [], _ :: _, h => by cases h
  | _ :: _, [], h => by cases h
theorem lbeq_len : ∀ {a b : List Tree}, tbeq.lbeq a b = true → a.length = b.length
  | [], [], _ => rfl
  | x :: l, y :: m, h => by
    simp only [tbeq.lbeq, Bool.and_eq_true] at h
    simp [lbeq_len h.2]
  | [], _ :: _, h => by cases h
  | _ :: _, [], h => by cases h
theorem abeq_ne {a b : List Attr} (h : a.length ≠ b.length) : abeq a b = false := by
  cases hq : abeq a b
  · rfl
  · exact absurd (abeq_len hq) h
theorem lbeq_ne {a b : List Tree} (h : a.length ≠ b.length) : tbeq.lbeq a b = false := by
  cases hq : tbeq.lbeq a b
  · rfl
  · exact absurd (lbeq_len hq) h
theorem tbeq_eq (a b : Tree) : tbeq a b = ((a.Tag == b.Tag) && (a.Key == b.Key) && (a.Text == b.Text) && abeq a.Attrs b.Attrs && tbeq.lbeq a.Kids b.Kids) := by cases a; cases b; rw [tbeq]; rfl

theorem sameA_loop (l m : List Attr) (hb : l.length < 1000000000) : ∀ (r s d e : List Attr) (k : Nat), l = d ++ r → m = e ++ s → d.length = e.length → r.length = s.length → r.length < k →
    porticobook_Same_api_Attr_l12 l m k (d.length : Int) = some (abeq r s)
  | [], [], d, e, k + 1, hl, hm, _, _, _ => by
    rw [porticobook_Same_api_Attr_l12, if_neg (by rw [hl]; simp)]; rfl
  | z :: r, y :: s, d, e, k + 1, hl, hm, hd, hr, hk => by
    have hkl : l.length = d.length + r.length + 1 := by rw [hl]; simp; omega
    rw [porticobook_Same_api_Attr_l12, if_pos (by rw [decide_eq_true_eq, hkl]; omega), idx_mid hl, Option.bind_some, hd, idx_mid hm, Option.bind_some]
    cases hq : Attr.beq z y
    · simp [abeq, hq]
    · simp only [Bool.not_true, Bool.false_eq_true, if_false]
      rw [w64 (by omega) (by omega)]
      have := sameA_loop l m hb r s (d ++ [z]) (e ++ [y]) k (by rw [hl]; simp) (by rw [hm]; simp) (by simp [hd]) (by simpa using hr) (by simp at hk; omega)
      rw [List.length_append, List.length_singleton, hd] at this
      push_cast at this
      rw [this]; simp [abeq, hq]
  | [], _ :: _, d, e, k + 1, _, _, _, hr, _ => by simp at hr
  | _ :: _, [], d, e, k + 1, _, _, _, hr, _ => by simp at hr
theorem sameA_ok (n : Nat) (l m : List Attr) (hb : l.length < 1000000000) (hn : l.length < n) : porticobook_Same_api_Attr n l m = some (abeq l m) := by
  unfold porticobook_Same_api_Attr
  by_cases h : l.length = m.length
  · rw [if_neg (by simp [h])]
    exact sameA_loop l m hb l m [] [] n rfl rfl rfl h hn
  · rw [if_pos (by simp; omega), abeq_ne h]

theorem trees_loop (f : Tree → Tree → Option Bool) (a b : Tree) (hf : ∀ x ∈ a.Kids, ∀ y, f x y = some (tbeq x y)) (hb : a.Kids.length < 1000000000) : ∀ (r s d e : List Tree) (k : Nat), a.Kids = d ++ r → b.Kids = e ++ s → d.length = e.length → r.length = s.length → r.length < k →
    porticokeep_Trees_l24 f a b k (d.length : Int) = some (tbeq.lbeq r s)
  | [], [], d, e, k + 1, hl, hm, _, _, _ => by
    rw [porticokeep_Trees_l24, if_neg (by rw [hl]; simp)]; rfl
  | z :: r, y :: s, d, e, k + 1, hl, hm, hd, hr, hk => by
    have hkl : a.Kids.length = d.length + r.length + 1 := by rw [hl]; simp; omega
    rw [porticokeep_Trees_l24, if_pos (by rw [decide_eq_true_eq, hkl]; omega), idx_mid hl, Option.bind_some, hd, idx_mid hm, Option.bind_some, hf z (by rw [hl]; simp), Option.bind_some]
    cases hq : tbeq z y
    · simp [tbeq.lbeq, hq]
    · simp only [Bool.not_true, Bool.false_eq_true, if_false]
      rw [w64 (by omega) (by omega)]
      have := trees_loop f a b hf hb r s (d ++ [z]) (e ++ [y]) k (by rw [hl]; simp) (by rw [hm]; simp) (by simp [hd]) (by simpa using hr) (by simp at hk; omega)
      rw [List.length_append, List.length_singleton, hd] at this
      push_cast at this
      rw [this]; simp [tbeq.lbeq, hq]
  | [], _ :: _, d, e, k + 1, _, _, _, hr, _ => by simp at hr
  | _ :: _, [], d, e, k + 1, _, _, _, hr, _ => by simp at hr
theorem trees_ok : ∀ (m : Nat) (t u : Tree), tsz t ≤ m → m < 1000000 → ∀ n, m < n → porticokeep_Trees n t u = some (tbeq t u)
  | 0, t, u, h, _, n, _ => by rw [tsz_kids] at h; omega
  | m + 1, t, u, h, hm, n + 1, hn => by
    have hk := tsz_kids t
    have hlen := lsz_len t.Kids
    have hf : ∀ x ∈ t.Kids, ∀ y, porticokeep_Trees n x y = some (tbeq x y) := fun x hx y => trees_ok m x y (by have := lsz_mem' hx; omega) (by omega) n (by omega)
    rw [porticokeep_Trees, tbeq_eq]
    cases h1 : (t.Tag == u.Tag) <;> cases h2 : (t.Key == u.Key) <;> cases h3 : (t.Text == u.Text) <;> simp only [Bool.not_true, Bool.not_false, Bool.or_self, Bool.or_true, Bool.true_or, Bool.or_false, if_true, Option.bind_some, Bool.false_eq_true, if_false, Bool.and_false, Bool.false_and, Bool.and_self, Bool.true_and]
    rw [sameA_ok n _ _ (by omega) (by omega), Option.bind_some, Option.bind_some]
    cases h4 : abeq t.Attrs u.Attrs
    · simp
    · simp only [Bool.not_true, Bool.false_or, Bool.true_and]
      by_cases hl : t.Kids.length = u.Kids.length
      · rw [if_neg (by simp [hl])]
        have := trees_loop (porticokeep_Trees n) t u hf (by omega) t.Kids u.Kids [] [] n rfl rfl rfl hl (by omega)
        simp only [List.length_nil] at this
        rw [show ((0 : Nat) : Int) = 0 from rfl] at this
        rw [this]
      · rw [if_pos (by simp; omega), lbeq_ne hl]
theorem attr_refl (a : Attr) : Attr.beq a a = true := by simp [Attr.beq]
theorem abeq_refl : ∀ (l : List Attr), abeq l l = true
  | [] => rfl
  | a :: l => by simp [abeq, attr_refl, abeq_refl l]
theorem tbeq_refl : ∀ (t : Tree), tbeq t t = true
  | .mk a b c d e => by
    rw [tbeq, abeq_refl]
    have := go e
    simp [this]
  where go : ∀ (l : List Tree), tbeq.lbeq l l = true
  | [] => rfl
  | x :: l => by rw [tbeq.lbeq, tbeq_refl x, go l]; rfl
end Pr
end Go.Ev


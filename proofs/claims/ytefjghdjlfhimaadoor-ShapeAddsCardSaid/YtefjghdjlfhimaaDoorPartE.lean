import Derived.Test.YtefjghdjlfhimaaDoorPartD
import Derived.Test.YtefjghdjlfhimaaDoorProg
import Derived.WalkKit
import Derived.ProofKit
import Derived.IntWalk
namespace Go.Ev
namespace Pr
set_option linter.unusedVariables false
set_option linter.unusedSimpArgs false
open Go.Proofs
noncomputable def cfg : Cfg := { P := Tryd.prog, good := fun _ => true, rowT := fun _ => false, prim := fun _ _ _ => none, objT := fun t => bif Nat.beq t 50 then some (1, .str []) else none, hasPrim := fun _ => false }
noncomputable def cfgR1 : Cfg := { cfg with rowT := fun t => Nat.beq t 26 }
theorem nm9 : (Tryd.f9.name == "runtime.NumGoroutine") = false := by kernel_rfl
theorem rw44 : cfg.rowT 44 = false := by kernel_rfl
theorem el44 : elemSl cfg.P 44 = some 9 := by kernel_rfl
theorem ag9 : aggO cfg.P 9 = some false := by kernel_rfl
theorem zo9 : zeroOf cfg.P 9 = some (.str []) := by kernel_rfl
theorem sz9 : szOf cfg.P 9 = 1 := by kernel_rfl
theorem nm18 : (Tryd.f18.name == "runtime.NumGoroutine") = false := by kernel_rfl
theorem es22 : (elemSl cfg.P 22).isSome = true := by kernel_rfl
theorem el22 : elemSl cfg.P 22 = some 3 := by kernel_rfl
theorem as3 : (aggO cfg.P 3).isSome = true := by kernel_rfl
theorem sz3 : szOf cfg.P 3 = 1 := by kernel_rfl
theorem ag3 : aggO cfg.P 3 = some false := by kernel_rfl
theorem nm19 : (Tryd.f19.name == "runtime.NumGoroutine") = false := by kernel_rfl
theorem hmix : cfg.P.follows .mixedOrders = true := by kernel_rfl
theorem nm20 : (Tryd.f20.name == "runtime.NumGoroutine") = false := by kernel_rfl
theorem ob28 : cfg.objT 28 = none := by kernel_rfl
theorem zo28 : zeroOf cfg.P 28 = some (.agg [.str [], .str [], .str [], .nils, .nils]) := by kernel_rfl
theorem el26 : elemSl cfg.P 26 = some 28 := by kernel_rfl
theorem as28 : (aggO cfg.P 28).isSome = true := by kernel_rfl
theorem sz28 : szOf cfg.P 28 = 5 := by kernel_rfl
theorem ag28 : aggO cfg.P 28 = some true := by kernel_rfl
theorem es26 : (elemSl cfg.P 26).isSome = true := by kernel_rfl
theorem fo28_4 : fieldOf cfg.P 28 4 = some (4, 26) := by kernel_rfl
theorem nz26 : Nat.beq (szOf cfg.P 26) 0 = false := by kernel_rfl
theorem ag26 : aggO cfg.P 26 = some false := by kernel_rfl
theorem rw26 : cfg.rowT 26 = false := by kernel_rfl
theorem os26 : okSrc cfg 26 = true := by kernel_rfl
theorem nb28 : bytesOf cfg.P 28 = 96 := by kernel_rfl
theorem zk28 : zeroOk cfg 28 = true := by kernel_rfl
theorem sz26 : szOf cfg.P 26 = 1 := by kernel_rfl
theorem as26 : (aggO cfg.P 26).isSome = true := by kernel_rfl
theorem nm21 : (Tryd.f21.name == "runtime.NumGoroutine") = false := by kernel_rfl
theorem rw22 : cfg.rowT 22 = false := by kernel_rfl
theorem zo3 : zeroOf cfg.P 3 = some (.int .i64 0) := by kernel_rfl
theorem fo24_0 : fieldOf cfg.P 24 0 = some (0, 22) := by kernel_rfl
theorem nz22 : Nat.beq (szOf cfg.P 22) 0 = false := by kernel_rfl
theorem ag22 : aggO cfg.P 22 = some false := by kernel_rfl
theorem fo28_0 : fieldOf cfg.P 28 0 = some (0, 9) := by kernel_rfl
theorem nz9 : Nat.beq (szOf cfg.P 9) 0 = false := by kernel_rfl
theorem fo24_3 : fieldOf cfg.P 24 3 = some (3, 22) := by kernel_rfl
theorem es44 : (elemSl cfg.P 44).isSome = true := by kernel_rfl
theorem as9 : (aggO cfg.P 9).isSome = true := by kernel_rfl
theorem fo24_1 : fieldOf cfg.P 24 1 = some (1, 22) := by kernel_rfl
theorem fo24_2 : fieldOf cfg.P 24 2 = some (2, 22) := by kernel_rfl
theorem us3 : (cfg.P.underlying 3).isSome = true := by kernel_rfl
theorem it5 : intT cfg.P 5 = some .u8 := by kernel_rfl
theorem rw34 : cfg.rowT 34 = false := by kernel_rfl
theorem el34 : elemSl cfg.P 34 = some 5 := by kernel_rfl
theorem ag5 : aggO cfg.P 5 = some false := by kernel_rfl
theorem zo5 : zeroOf cfg.P 5 = some (.int .u8 0) := by kernel_rfl
theorem sz5 : szOf cfg.P 5 = 1 := by kernel_rfl
theorem bs34 : byteSl cfg 34 = true := by kernel_rfl
theorem st9 : strT cfg.P 9 = true := by kernel_rfl
theorem fo28_1 : fieldOf cfg.P 28 1 = some (1, 9) := by kernel_rfl
theorem zo36 : zeroOf cfg.P 36 = some (.agg [.str [], .str []]) := by kernel_rfl
theorem rw25 : cfg.rowT 25 = false := by kernel_rfl
theorem el25 : elemSl cfg.P 25 = some 36 := by kernel_rfl
theorem ag36 : aggO cfg.P 36 = some true := by kernel_rfl
theorem sz36 : szOf cfg.P 36 = 2 := by kernel_rfl
theorem fo28_3 : fieldOf cfg.P 28 3 = some (3, 25) := by kernel_rfl
theorem nz25 : Nat.beq (szOf cfg.P 25) 0 = false := by kernel_rfl
theorem sz25 : szOf cfg.P 25 = 1 := by kernel_rfl
theorem as25 : (aggO cfg.P 25).isSome = true := by kernel_rfl
theorem os22 : okSrc cfg 22 = true := by kernel_rfl
theorem nb3 : bytesOf cfg.P 3 = 8 := by kernel_rfl
theorem zk3 : zeroOk cfg 3 = true := by kernel_rfl
theorem nm6 : (Tryd.f6.name == "runtime.NumGoroutine") = false := by kernel_rfl
theorem nm25 : (Tryd.f25.name == "runtime.NumGoroutine") = false := by kernel_rfl
theorem us25s : cfg.P.underlying 25 = some (.slice 36) := by kernel_rfl
theorem os25 : okSrc cfg 25 = true := by kernel_rfl
theorem nb36 : bytesOf cfg.P 36 = 32 := by kernel_rfl
theorem zk36 : zeroOk cfg 36 = true := by kernel_rfl
theorem nm26 : (Tryd.f26.name == "runtime.NumGoroutine") = false := by kernel_rfl
theorem us26s : cfg.P.underlying 26 = some (.slice 28) := by kernel_rfl
theorem bs26xR1 : asRow cfgR1 26 0 = false := by kernel_rfl
theorem rw26R1 : cfgR1.rowT 26 = true := by kernel_rfl
theorem os26R1 : okSrc cfgR1 26 = true := by kernel_rfl
theorem zk28R1 : zeroOk cfgR1 28 = true := by kernel_rfl
theorem ob28R1 : cfgR1.objT 28 = none := by kernel_rfl
theorem ag25 : aggO cfg.P 25 = some false := by kernel_rfl
theorem nm10 : (Tryd.f10.name == "runtime.NumGoroutine") = false := by kernel_rfl
theorem nm14 : (Tryd.f14.name == "runtime.NumGoroutine") = false := by kernel_rfl
theorem nm15 : (Tryd.f15.name == "runtime.NumGoroutine") = false := by kernel_rfl
theorem fo36_0 : fieldOf cfg.P 36 0 = some (0, 9) := by kernel_rfl
theorem nm36 : (Tryd.f36.name == "runtime.NumGoroutine") = false := by kernel_rfl
theorem es25 : (elemSl cfg.P 25).isSome = true := by kernel_rfl
theorem as36 : (aggO cfg.P 36).isSome = true := by kernel_rfl
theorem nm46 : (Tryd.f46.name == "runtime.NumGoroutine") = false := by kernel_rfl
theorem nm37 : (Tryd.f37.name == "runtime.NumGoroutine") = false := by kernel_rfl
theorem fo28_2 : fieldOf cfg.P 28 2 = some (2, 9) := by kernel_rfl
theorem ob36 : cfg.objT 36 = none := by kernel_rfl
theorem fo36_1 : fieldOf cfg.P 36 1 = some (1, 9) := by kernel_rfl
theorem ue25 : (cfg.P.underlying 36).isSome = true := by kernel_rfl
theorem nm33 : (Tryd.f33.name == "runtime.NumGoroutine") = false := by kernel_rfl
theorem nm27 : (Tryd.f27.name == "runtime.NumGoroutine") = false := by kernel_rfl
theorem nm11 : (Tryd.f11.name == "runtime.NumGoroutine") = false := by kernel_rfl
theorem nm16 : (Tryd.f16.name == "runtime.NumGoroutine") = false := by kernel_rfl
theorem nm28 : (Tryd.f28.name == "runtime.NumGoroutine") = false := by kernel_rfl
theorem nm29 : (Tryd.f29.name == "runtime.NumGoroutine") = false := by kernel_rfl
theorem nm17 : (Tryd.f17.name == "runtime.NumGoroutine") = false := by kernel_rfl
theorem ag24 : aggO cfg.P 24 = some true := by kernel_rfl
theorem sz24 : szOf cfg.P 24 = 4 := by kernel_rfl
theorem nm5 : (Tryd.f5.name == "runtime.NumGoroutine") = false := by kernel_rfl
theorem place_struct28 : oper.P_place cfg 28 = some (placeL [(0, 1), (1, 1), (2, 1), (3, 1), (4, 1)]) := placeL_of (by kernel_rfl)
theorem place_struct36 : oper.P_place cfg 36 = some (placeL [(0, 1), (1, 1)]) := placeL_of (by kernel_rfl)
theorem eqD36 (x y : Attr) : AV.eqv cfg.P 36 (.d (.agg [(.str x.Name), (.str x.Value)])) (.d (.agg [(.str y.Name), (.str y.Value)])) = some (Attr.beq x y) :=
  eqv_flat (by kernel_rfl) Tryd.underlying36 (by kernel_rfl) (by kernel_rfl)
/-- What is asked of the world and of the library. -/
structure PrOk (R : ObjR) : Prop where
  obj : ObjOkC R cfg
  strings_Trim_ok : ∀ (n : Nat) (x0 : Str) (x1 : Str) (r : Str), strings_Trim n x0 x1 = some r → SpecC R cfg.P 35 [(.str x0), (.str x1)] (.d (.str r))
  porticolaw13_ShapeRuns_ok : ∀ (n : Nat) (r : Bool), porticolaw13_ShapeRuns n = some r → SpecC R cfg.P 12 [] (.d (.bool r))
section
variable {R : ObjR} (E : PrOk R)
include E
theorem objR1 : ObjOkC R cfgR1 := ⟨E.obj.toObjOk, E.obj.new⟩
set_option maxHeartbeats 4000000 in
theorem porticobook_Within_ok (n : Nat) (a1 : Int) (a2 : Int) (a3 : Int) (r : Int) (h : porticobook_Within n a1 a2 a3 = some r) : SpecC R cfg.P 9 [(.int .i64 a1), (.int .i64 a2), (.int .i64 a3)] (.d (.int .i64 r)) := by
  unfold porticobook_Within at h
  refine SpecC.of_wp E.obj.toObjOk (C := cfg) Tryd.func9 rfl nm9 rfl ?_
  have H0 : Has pureSt pureSt [] := Has.pure
  refine WpC.seq ?_
  refine WpC.region E.obj rfl ?_
  refine wpO.val rfl (oper_assign rfl) rfl ?_
  refine wpO.nil ?_
  refine WpC.seq ?_
  refine WpC.region E.obj rfl ?_
  refine wpO.val rfl (oper_move rfl) rfl ?_
  refine wpO.val rfl (oper_move rfl) rfl ?_
  refine wpO.val rfl (oper_move rfl) rfl ?_
  refine wpO.val rfl (oper_bin rfl rfl binD_sub) rfl ?_
  refine wpO.val rfl (oper_bin rfl rfl binD_add) rfl ?_
  obtain ⟨z4, hzz4, h⟩ := bind_some h
  refine wpO.val rfl (oper_bin rfl rfl (binD_remI hzz4)) rfl ?_
  refine wpO.val rfl (oper_assign rfl) rfl ?_
  refine wpO.nil ?_
  refine WpC.join (B := pureSt) (α := Int) (fun a => porticobook_Within_j8 a2 a = some r) (fun a => [(0, (.d (.int .i64 a))), (1, (.d (.int .i64 a2)))]) (fun a => []) ?_ ?_
  ·
    intro x7 S5 H6 h
    replace h : porticobook_Within_j8 a2 x7 = some r := h
    replace H6 : Has pureSt S5 [] := H6
    unfold porticobook_Within_j8 at h
    refine WpC.seq ?_
    refine WpC.region E.obj rfl ?_
    refine wpO.val rfl (oper_move rfl) rfl ?_
    refine wpO.val rfl (oper_move rfl) rfl ?_
    refine wpO.val rfl (oper_bin rfl rfl binD_add) rfl ?_
    refine wpO.val rfl (oper_assign rfl) rfl ?_
    refine wpO.nil ?_
    have hr := Option.some.inj h
    subst hr
    exact WpC.ret ⟨_, rfl, rfl, end1 (ArgsC.eq .nil)⟩
  ·
    refine WpC.seq ?_
    refine WpC.region E.obj rfl ?_
    refine wpO.val rfl (oper_move rfl) rfl ?_
    refine wpO.val rfl (oper_bin rfl rfl binD_lss) rfl ?_
    refine wpO.nil ?_
    refine WpC.cond rfl (fun hb9 => ?_) (fun hb9 => ?_)
    ·
      replace h := if_t hb9 h
      refine WpC.region E.obj rfl ?_
      refine wpO.val rfl (oper_move rfl) rfl ?_
      refine wpO.val rfl (oper_move rfl) rfl ?_
      refine wpO.val rfl (oper_bin rfl rfl binD_add) rfl ?_
      refine wpO.val rfl (oper_move rfl) rfl ?_
      refine wpO.val rfl (oper_bin rfl rfl binD_sub) rfl ?_
      refine wpO.val rfl (oper_bin rfl rfl binD_add) rfl ?_
      refine wpO.val rfl (oper_assign rfl) rfl ?_
      refine wpO.nil ?_
      exact ⟨(IntKind.wrap .i64 ((IntKind.wrap .i64 ((IntKind.wrap .i64 (z4 + a3)) - a2)) + 1)), _, _, pureSt, .refl _ _, .refl _, (WeakE.cons rfl (.refl _) (WeakE.cons rfl (.refl _) WeakE.nil)), H0.sel [] (by decide) rfl, h⟩
    ·
      replace h := if_f hb9 h
      refine WpC.skip ?_
      exact ⟨z4, _, _, pureSt, .refl _ _, .refl _, (WeakE.cons rfl (.refl _) (WeakE.cons rfl (.refl _) WeakE.nil)), H0.sel [] (by decide) rfl, h⟩
set_option maxHeartbeats 4000000 in
theorem porticokeep_Words_ok (n : Nat)  (r : (List Str)) (h : porticokeep_Words n  = some r) : SpecC R cfg.P 18 [] (.d (.sl ((r).map D.str) false)) := by
  unfold porticokeep_Words at h
  refine SpecC.of_wp E.obj.toObjOk (C := cfg) Tryd.func18 rfl nm18 rfl ?_
  have H0 : Has pureSt pureSt [] := Has.pure
  refine WpC.seq ?_
  refine WpC.region E.obj rfl ?_
  refine wpO.val rfl (oper_assign rfl) rfl ?_
  refine wpO.nil ?_
  refine WpC.seq ?_
  refine WpC.region E.obj rfl ?_
  refine wpO.val rfl (oper_buildSlice (vs := [(.d (.str [97])), (.d (.str [98])), (.d (.str [105, 116, 101, 109])), (.d (.str [120, 32, 121])), (.d (.str [37])), (.d (.str [97, 47, 98])), (.d (.str [46, 46])), (.d (.str [122])), (.d (.str [49])), (.d (.str [108, 105, 115, 116])), (.d (.str [255])), (.d (.str [63, 61, 38]))]) (ds := [(.str [97]), (.str [98]), (.str [105, 116, 101, 109]), (.str [120, 32, 121]), (.str [37]), (.str [97, 47, 98]), (.str [46, 46]), (.str [122]), (.str [49]), (.str [108, 105, 115, 116]), (.str [255]), (.str [63, 61, 38])]) rw44 el44 ag9 zo9 sz9 rfl (by decide) (.cons rfl rfl (.cons rfl rfl (.cons rfl rfl (.cons rfl rfl (.cons rfl rfl (.cons rfl rfl (.cons rfl rfl (.cons rfl rfl (.cons rfl rfl (.cons rfl rfl (.cons rfl rfl (.cons rfl rfl .nil)))))))))))) rfl (by intro d hd; simp only [List.mem_cons, List.not_mem_nil, or_false] at hd; rcases hd with rfl | rfl | rfl | rfl | rfl | rfl | rfl | rfl | rfl | rfl | rfl | rfl <;> rfl) rfl) rfl ?_
  refine wpO.val rfl (oper_assign rfl) rfl ?_
  refine wpO.nil ?_
  have hr := Option.some.inj h
  subst hr
  exact WpC.ret ⟨_, rfl, rfl, end1 (ArgsC.consW rfl (.untight _ _) .nil)⟩
set_option maxHeartbeats 4000000 in
theorem porticokeep_pick_ok (n : Nat) (a1 : (List Int)) (a2 : Int) (r : Int) (h : porticokeep_pick n a1 a2 = some r) : SpecC R cfg.P 19 [(.sl ((a1).map (D.int .i64)) false), (.int .i64 a2)] (.d (.int .i64 r)) := by
  unfold porticokeep_pick at h
  refine SpecC.of_wp E.obj.toObjOk (C := cfg) Tryd.func19 rfl nm19 rfl ?_
  have H0 : Has pureSt pureSt [] := Has.pure
  refine WpC.seq ?_
  refine WpC.region E.obj rfl ?_
  refine wpO.val rfl (oper_assign rfl) rfl ?_
  refine wpO.nil ?_
  refine WpC.seq ?_
  refine WpC.seq ?_
  refine WpC.region E.obj rfl ?_
  refine wpO.val rfl (oper_move rfl) rfl ?_
  refine wpO.val rfl (oper_lenL rfl es22) rfl ?_
  refine wpO.val rfl (oper_bin rfl rfl binD_eql) rfl ?_
  refine wpO.nil ?_
  refine WpC.cond rfl (fun hb3 => ?_) (fun hb3 => ?_)
  ·
    replace h := if_t hb3 h
    refine WpC.seq ?_
    refine WpC.region E.obj rfl ?_
    refine wpO.val rfl (oper_assign rfl) rfl ?_
    refine wpO.nil ?_
    have hr := Option.some.inj h
    subst hr
    exact WpC.ret ⟨_, rfl, rfl, end1 (ArgsC.eq .nil)⟩
  ·
    replace h := if_f hb3 h
    refine WpC.skip ?_
    refine WpC.seq ?_
    refine WpC.region E.obj rfl ?_
    refine wpO.val rfl (oper_move rfl) rfl ?_
    refine wpO.val rfl (oper_move rfl) rfl ?_
    refine wpO.val rfl (oper_move rfl) rfl ?_
    refine wpO.val rfl (oper_lenL rfl es22) rfl ?_
    obtain ⟨z4, hzz4, h⟩ := bind_some h
    refine wpO.val rfl (oper_bin rfl rfl (binD_remI hzz4)) rfl ?_
    obtain ⟨z5, hzz5, h⟩ := bind_some h
    refine wpO.val rfl (oper_idx rfl rfl (idxAddr (enc := (D.int .i64)) hzz5 el22 as3 (((fun _ => rfl) _).trans sz3.symm))) rfl ?_
    refine wpO.val rfl (oper_loadE rfl (partD_one ag3 rfl)) rfl ?_
    refine wpO.val rfl (oper_assign rfl) rfl ?_
    refine wpO.nil ?_
    have hr := Option.some.inj h
    subst hr
    exact WpC.ret ⟨_, rfl, rfl, end1 (ArgsC.eq .nil)⟩
set_option maxHeartbeats 4000000 in
theorem porticokeep_deep_ok (n : Nat) (a1 : (List Int)) (a2 : Int) (r : Int) (h : porticokeep_deep n a1 a2 = some r) : SpecC R cfg.P 20 [(.sl ((a1).map (D.int .i64)) false), (.int .i64 a2)] (.d (.int .i64 r)) := by
  unfold porticokeep_deep at h
  refine SpecC.of_wp E.obj.toObjOk (C := cfg) Tryd.func20 rfl nm20 rfl ?_
  have H0 : Has pureSt pureSt [] := Has.pure
  refine WpC.seq ?_
  refine WpC.region E.obj rfl ?_
  refine wpO.val rfl (oper_assign rfl) rfl ?_
  refine wpO.nil ?_
  refine WpC.seq ?_
  refine WpC.region E.obj rfl ?_
  refine wpO.val rfl (oper_assign rfl) rfl ?_
  refine wpO.nil ?_
  refine WpC.seq ?_
  refine WpC.block ?_
  refine WpL.start (B := pureSt) (α := Int × Int) (fun k a => porticokeep_deep_l13 a1 k a.1 a.2 = some r) (fun a => [(0, (.d (.sl ((a1).map (D.int .i64)) false))), (1, (.d (.int .i64 a.1))), (5, (.d (.int .i64 a.2)))]) (fun a => []) ?_ ?_ n ⟨⟨a2, 0⟩, _, _, pureSt, .refl _ _, .refl _, (WeakE.cons rfl (.refl _) (WeakE.cons rfl (.refl _) (WeakE.cons rfl (.refl _) WeakE.nil))), H0.sel [] (by decide) rfl, h⟩
  · intro a h; simp [porticokeep_deep_l13] at h
  ·
    intro k13 a S9 H10 h
    obtain ⟨x11, x12⟩ := a
    replace h : porticokeep_deep_l13 a1 (k13 + 1) x11 x12 = some r := h
    replace H10 : Has pureSt S9 [] := H10
    unfold porticokeep_deep_l13 at h
    refine WpC.seq ?_
    refine WpC.seq ?_
    refine WpC.region E.obj rfl ?_
    refine wpO.val rfl (oper_move rfl) rfl ?_
    refine wpO.val rfl (oper_bin rfl rfl binD_geq) rfl ?_
    refine wpO.val rfl (oper_move rfl) rfl ?_
    refine wpO.groupV 3 11 (.d (.bool ((decide (0 ≤ x11)) && (decide (x12 < 99))))) ?_ ?_
    ·
      rcases Bool.eq_false_or_eq_true ((decide (0 ≤ x11))) with hB14 | hB14
      ·
        refine wpO.bool hB14 ?_
        refine wpO.val rfl (oper_move rfl) rfl ?_
        refine wpO.val rfl (oper_bin rfl rfl binD_lss) rfl ?_
        refine wpO.val rfl (oper_pick (b := true) rfl rfl) rfl ?_
        exact wpO.nil ⟨_, rfl, (WeakE.put (WeakE.push rfl (WeakE.push rfl (WeakE.put (.refl _) (Less.eq (by rw [hB14]))))) (Less.eq (by rw [hB14]; rw [Bool.true_and])))⟩
      ·
        refine wpO.bool hB14 ?_
        refine wpO.no rfl rfl ?_
        refine wpO.no rfl rfl ?_
        refine wpO.val rfl (oper_pick (b := false) rfl rfl) rfl ?_
        exact wpO.nil ⟨_, rfl, (WeakE.put (WeakE.push rfl (WeakE.push rfl (WeakE.put (.refl _) (Less.eq (by rw [hB14]))))) (Less.eq (by rw [hB14]; rw [Bool.false_and])))⟩
    ·
      refine wpO.nil ?_
      refine WpC.cond rfl (fun hb15 => ?_) (fun hb15 => ?_)
      ·
        replace h := if_t hb15 h
        refine WpC.skip ?_
        refine WpC.block ?_
        obtain ⟨z16, hzz16, h⟩ := bind_some h
        refine WpC.drawP E.obj hmix [[(5, none)], [(12, some 0)], [(0, none)], [(1, none)], [(14, some 2), (15, some 3)], [(16, some 4)], [(13, some 1)], [(17, some 5)]] [(0, none), (1, some 7), (5, some 6)] (by kernel_rfl) [] (by decide) [some (.d (.int .i64 x12)), some (.d (.int .i64 (IntKind.wrap .i64 (x12 + 1)))), some (.d (.sl ((a1).map (D.int .i64)) false)), some (.d (.int .i64 x11)), some (.eptr (.int .i64 z16) 0), some (.d (.int .i64 z16)), some (.d (.int .i64 (IntKind.wrap .i64 (x12 + 1)))), some (.d (.int .i64 z16))] ?_
        refine ⟨[0, 1, 2, 3, 4, 5, 6, 7], by kernel_rfl, ?_, _, rfl, ?_⟩
        ·
          refine .cons rfl rfl rfl (.step ?_) ?_
          ·
            refine wpO.val rfl (oper_move rfl) rfl ?_
            exact wpO.nil ⟨_, _, rfl, fun _ ht => by cases ht; exact ⟨rfl, .refl _⟩⟩
          refine .cons rfl rfl rfl (.step ?_) ?_
          ·
            refine wpO.val rfl (oper_bin rfl rfl binD_add) rfl ?_
            exact wpO.nil ⟨_, _, rfl, fun _ ht => by cases ht; exact ⟨rfl, .refl _⟩⟩
          refine .cons rfl rfl rfl (.step ?_) ?_
          ·
            refine wpO.val rfl (oper_move rfl) rfl ?_
            exact wpO.nil ⟨_, _, rfl, fun _ ht => by cases ht; exact ⟨rfl, .refl _⟩⟩
          refine .cons rfl rfl rfl (.step ?_) ?_
          ·
            refine wpO.val rfl (oper_move rfl) rfl ?_
            exact wpO.nil ⟨_, _, rfl, fun _ ht => by cases ht; exact ⟨rfl, .refl _⟩⟩
          refine .cons rfl rfl rfl (.step ?_) ?_
          ·
            refine wpO.val rfl (oper_idx rfl rfl (idxAddr (enc := (D.int .i64)) hzz16 el22 as3 (((fun _ => rfl) _).trans sz3.symm))) rfl ?_
            exact wpO.nil ⟨_, _, rfl, fun _ ht => by cases ht; exact ⟨rfl, .refl _⟩⟩
          refine .cons rfl rfl rfl (.step ?_) ?_
          ·
            refine wpO.val rfl (oper_loadE rfl (partD_one ag3 rfl)) rfl ?_
            exact wpO.nil ⟨_, _, rfl, fun _ ht => by cases ht; exact ⟨rfl, .refl _⟩⟩
          refine .cons rfl rfl rfl (.step ?_) ?_
          ·
            refine wpO.val rfl (oper_assign rfl) rfl ?_
            exact wpO.nil ⟨_, _, rfl, fun _ ht => by cases ht; exact ⟨rfl, .refl _⟩⟩
          refine .cons rfl rfl rfl (.step ?_) ?_
          ·
            refine wpO.val rfl (oper_assign rfl) rfl ?_
            exact wpO.nil ⟨_, _, rfl, fun _ ht => by cases ht; exact ⟨rfl, .refl _⟩⟩
          exact .nil
        exact ⟨⟨z16, (IntKind.wrap .i64 (x12 + 1))⟩, _, _, S9, .refl _ _, .refl _, (WeakE.cons rfl (.refl _) (WeakE.cons rfl (.refl _) (WeakE.cons rfl (.refl _) WeakE.nil))), H10.sel [] (by decide) rfl, h⟩
      ·
        replace h := if_f hb15 h
        refine WpC.exit ?_
        refine WpC.seq ?_
        refine WpC.region E.obj rfl ?_
        refine wpO.val rfl (oper_move rfl) rfl ?_
        refine wpO.val rfl (oper_assign rfl) rfl ?_
        refine wpO.nil ?_
        have hr := Option.some.inj h
        subst hr
        exact WpC.ret ⟨_, rfl, rfl, end1 (ArgsC.eq .nil)⟩
set_option maxHeartbeats 4000000 in
theorem porticokeep_grow_ok : ∀ (n : Nat) (a1 : (List Tree0)) (a2 : (List Int)) (a3 : Int) (r : Tree), porticokeep_grow n a1 a2 a3 = some r → SpecC R cfg.P 21 [(.sl ((a1).map encTree0) false), (.sl ((a2).map (D.int .i64)) false), (.int .i64 a3)] (.d (encTree r))
  | 0, a1, a2, a3, r, h => by simp [porticokeep_grow] at h
  | n + 1, a1, a2, a3, r, h => by
    have ih := porticokeep_grow_ok n
    unfold porticokeep_grow at h
    refine SpecC.of_wp E.obj.toObjOk (C := cfg) Tryd.func21 rfl nm21 rfl ?_
    have H0 : Has pureSt pureSt [] := Has.pure
    refine WpC.seq ?_
    refine WpC.region E.obj rfl ?_
    refine wpO.alloc H0 rfl ob28 zo28 rfl rfl (fun b4 S5 H6 => ?_)
    refine wpO.nil ?_
    refine WpC.seq ?_
    refine WpC.region E.obj rfl ?_
    refine wpO.val rfl (oper_move rfl) rfl ?_
    refine wpO.val rfl (oper_move rfl) rfl ?_
    obtain ⟨z7, hzz7, h⟩ := bind_some h
    refine wpO.val rfl (oper_idx rfl rfl (idxAddr (enc := encTree0) hzz7 el26 as28 ((Tree0.len _).trans sz28.symm))) rfl ?_
    refine wpO.val rfl (oper_loadE rfl (Tree0.partW ag28 sz28)) rfl ?_
    refine wpO.alloc H6 rfl ob28 zo28 rfl rfl (fun b8 S9 H10 => ?_)
    refine wpO.store H10 (i := 0) rfl rfl rfl rfl (Tree0.cellsA _) rfl sz28 rfl as28 rfl rfl rfl (fun S11 H12 => ?_)
    refine wpO.nil ?_
    refine WpC.seq ?_
    refine WpC.seq ?_
    refine WpC.region E.obj rfl ?_
    refine wpO.val rfl (oper_move rfl) rfl ?_
    refine wpO.val rfl (oper_lenL rfl es26) rfl ?_
    refine wpO.val rfl (oper_move rfl) rfl ?_
    refine wpO.nil ?_
    refine WpC.block ?_
    have H48 := H12.nilG
    refine WpL.start (B := pureSt) (α := (List Tree) × AV × Int) (fun k a => porticokeep_grow_l25 (porticokeep_grow n) a1 a2 a3 z7 k a.1 a.2.2 = some r) (fun a => [(0, (.d (.sl ((a1).map encTree0) false))), (1, (.d (.sl ((a2).map (D.int .i64)) false))), (2, (.d (.int .i64 a3))), (6, (.ptr b4 0 0)), (7, (.ptr b8 0 0)), (14, (.d (.int .i64 ((a1).length : Int)))), (15, (.d (.int .i64 a.2.2)))]) (fun a => [.box b8 [(.d (.str z7.Tag)), (.d (.str z7.Key)), (.d (.str z7.Text)), (.d (.sl ((z7.Attrs).map encAttr) false)), a.2.1], .box b4 [(.d (.str [])), (.d (.str [])), (.d (.str [])), (.d .nils), (.d .nils)], .grow a.2.1 ((a.1).map encTree)]) ?_ ?_ n ⟨⟨[], (.d .nils), 0⟩, _, _, S11, .refl _ _, .refl _, (WeakE.cons rfl (.refl _) (WeakE.cons rfl (.refl _) (WeakE.cons rfl (.refl _) (WeakE.cons rfl (.refl _) (WeakE.cons rfl (.refl _) (WeakE.cons rfl (.refl _) (WeakE.cons rfl (.refl _) WeakE.nil))))))), H48.sel [1, 2, 0] (by decide) rfl, h⟩
    · intro a h; simp [porticokeep_grow_l25] at h
    ·
      intro k25 a S20 H21 h
      obtain ⟨x22, v23, x24⟩ := a
      replace h : porticokeep_grow_l25 (porticokeep_grow n) a1 a2 a3 z7 (k25 + 1) x22 x24 = some r := h
      replace H21 : Has pureSt S20 [.box b8 [(.d (.str z7.Tag)), (.d (.str z7.Key)), (.d (.str z7.Text)), (.d (.sl ((z7.Attrs).map encAttr) false)), v23], .box b4 [(.d (.str [])), (.d (.str [])), (.d (.str [])), (.d .nils), (.d .nils)], .grow v23 ((x22).map encTree)] := H21
      unfold porticokeep_grow_l25 at h
      refine WpC.seq ?_
      refine WpC.region E.obj rfl ?_
      refine wpO.val rfl (oper_bin rfl rfl binD_lss) rfl ?_
      refine wpO.nil ?_
      refine WpC.seq ?_
      refine WpC.cond rfl (fun hb26 => ?_) (fun hb26 => ?_)
      ·
        replace h := if_t hb26 h
        refine WpC.skip ?_
        refine WpC.join (B := pureSt) (α := (List Tree) × AV) (fun a => porticokeep_grow_j31 x24 (porticokeep_grow_l25 (porticokeep_grow n) a1 a2 a3 z7 k25) a.1 = some r) (fun a => [(0, (.d (.sl ((a1).map encTree0) false))), (1, (.d (.sl ((a2).map (D.int .i64)) false))), (2, (.d (.int .i64 a3))), (6, (.ptr b4 0 0)), (7, (.ptr b8 0 0)), (14, (.d (.int .i64 ((a1).length : Int)))), (15, (.d (.int .i64 x24)))]) (fun a => [.box b8 [(.d (.str z7.Tag)), (.d (.str z7.Key)), (.d (.str z7.Text)), (.d (.sl ((z7.Attrs).map encAttr) false)), a.2], .box b4 [(.d (.str [])), (.d (.str [])), (.d (.str [])), (.d .nils), (.d .nils)], .grow a.2 ((a.1).map encTree)]) ?_ ?_
        ·
          intro a S27 H28 h
          obtain ⟨x29, v30⟩ := a
          replace h : porticokeep_grow_j31 x24 (porticokeep_grow_l25 (porticokeep_grow n) a1 a2 a3 z7 k25) x29 = some r := h
          replace H28 : Has pureSt S27 [.box b8 [(.d (.str z7.Tag)), (.d (.str z7.Key)), (.d (.str z7.Text)), (.d (.sl ((z7.Attrs).map encAttr) false)), v30], .box b4 [(.d (.str [])), (.d (.str [])), (.d (.str [])), (.d .nils), (.d .nils)], .grow v30 ((x29).map encTree)] := H28
          unfold porticokeep_grow_j31 at h
          refine WpC.region E.obj rfl ?_
          refine wpO.val rfl (oper_bin rfl rfl binD_add) rfl ?_
          refine wpO.val rfl (oper_move rfl) rfl ?_
          refine wpO.nil ?_
          exact ⟨⟨x29, v30, (IntKind.wrap .i64 (x24 + 1))⟩, _, _, S27, .refl _ _, .refl _, (WeakE.cons rfl (.refl _) (WeakE.cons rfl (.refl _) (WeakE.cons rfl (.refl _) (WeakE.cons rfl (.refl _) (WeakE.cons rfl (.refl _) (WeakE.cons rfl (.refl _) (WeakE.cons rfl (.refl _) WeakE.nil))))))), H28.sel [0, 1, 2] (by decide) rfl, h⟩
        ·
          refine WpC.block ?_
          refine WpC.seq ?_
          refine WpC.region E.obj rfl ?_
          refine wpO.val rfl (oper_move rfl) rfl ?_
          refine wpO.val rfl (oper_assign rfl) rfl ?_
          refine wpO.nil ?_
          refine WpC.seq ?_
          refine WpC.region E.obj rfl ?_
          refine wpO.val rfl (oper_move rfl) rfl ?_
          refine wpO.val rfl (oper_move rfl) rfl ?_
          obtain ⟨z32, hzz32, h⟩ := bind_some h
          refine wpO.val rfl (oper_idx rfl rfl (idxAddr (enc := (D.int .i64)) hzz32 el22 as3 (((fun _ => rfl) _).trans sz3.symm))) rfl ?_
          refine wpO.val rfl (oper_loadE rfl (partD_one ag3 rfl)) rfl ?_
          refine wpO.val rfl (oper_move rfl) rfl ?_
          refine wpO.val rfl (oper_bin rfl rfl binD_eql) rfl ?_
          refine wpO.nil ?_
          refine WpC.cond rfl (fun hb33 => ?_) (fun hb33 => ?_)
          ·
            replace h := if_t hb33 h
            obtain ⟨z34, hzz34, h⟩ := bind_some h
            obtain ⟨z35, hzz35, h⟩ := bind_some h
            refine WpC.drawP E.obj hmix [[(7, none)], [(24, some 0)], [(0, none)], [(1, none)], [(8, none)], [(26, some 2), (27, some 3), (28, some 4)], [(29, some 5)], [(25, some 1), (30, some 6)], [(7, none)], [(31, some 7), (32, some 8)]] [(0, none), (1, none), (2, none), (6, none), (7, none), (14, none), (15, none)] (by kernel_rfl) [7, 9] (by decide) [some (.ptr b8 0 4), some v23, some (.d (.sl ((a1).map encTree0) false)), some (.d (.sl ((a2).map (D.int .i64)) false)), some (.d (.int .i64 x24)), some (.d (encTree z34)), some (.d (.sl (([z34]).map encTree) true)), none, none, none] ?_
            refine ⟨[0, 1, 2, 3, 4, 5, 6], by kernel_rfl, ?_, _, _, rfl, rfl, .step ?_⟩
            ·
              refine .cons rfl rfl rfl (.step ?_) ?_
              ·
                refine wpO.val rfl (oper_fieldAddr rfl fo28_4 nz26 rfl) rfl ?_
                exact wpO.nil ⟨_, _, rfl, fun _ ht => by cases ht; exact ⟨rfl, .refl _⟩⟩
              refine .cons rfl rfl rfl (.step ?_) ?_
              ·
                refine wpO.val rfl (oper_load H21 (i := 0) rfl rfl (part_one ag26 rfl)) rfl ?_
                exact wpO.nil ⟨_, _, rfl, fun _ ht => by cases ht; exact ⟨rfl, .refl _⟩⟩
              refine .cons rfl rfl rfl (.step ?_) ?_
              ·
                refine wpO.val rfl (oper_move rfl) rfl ?_
                exact wpO.nil ⟨_, _, rfl, fun _ ht => by cases ht; exact ⟨rfl, .refl _⟩⟩
              refine .cons rfl rfl rfl (.step ?_) ?_
              ·
                refine wpO.val rfl (oper_move rfl) rfl ?_
                exact wpO.nil ⟨_, _, rfl, fun _ ht => by cases ht; exact ⟨rfl, .refl _⟩⟩
              refine .cons rfl rfl rfl (.step ?_) ?_
              ·
                refine wpO.val rfl (oper_move rfl) rfl ?_
                exact wpO.nil ⟨_, _, rfl, fun _ ht => by cases ht; exact ⟨rfl, .refl _⟩⟩
              refine .cons rfl rfl rfl (.step ?_) ?_
              ·
                refine wpO.ret rfl (oper_callF rfl rfl) (ih _ _ _ _ hzz34 _ _ (ArgsC.eq (ArgsC.eq (ArgsC.eq .nil)))) rfl ?_
                exact wpO.nil ⟨_, _, rfl, fun _ ht => by cases ht; exact ⟨rfl, .refl _⟩⟩
              refine .cons rfl rfl rfl (.step ?_) ?_
              ·
                refine wpO.val rfl (oper_buildSlice (vs := [(.d (encTree z34))]) (ds := [(encTree z34)]) rw26 el26 ag28 zo28 sz28 rfl (by decide) (.cons rfl (Tree.len _) .nil) rfl (by intro d hd; simp only [List.mem_cons, List.not_mem_nil, or_false] at hd; rcases hd with rfl <;> exact Tree.agg _) rfl) rfl ?_
                exact wpO.nil ⟨_, _, rfl, fun _ ht => by cases ht; exact ⟨rfl, .refl _⟩⟩
              exact .nil
            refine wpO.append (xs := (x22).map encTree) (ys := ([z34]).map encTree) (zs := (z35).map encTree) H21 rfl rfl rfl (i := 2) rfl rfl rw26 os26 el26 (app_bound hzz35) nb28 rfl (sizes_map (enc := encTree) (fun z => (Tree.len z).trans sz28.symm) _) (sizes_map (enc := encTree) (fun z => (Tree.len z).trans sz28.symm) _) zk28 rfl (app_eq hzz35) (fun v41 S42 H43 => ?_)
            refine wpO.nil ⟨_, _, _, rfl, (fun _ ht => by cases ht; rfl), [some (.ptr b8 0 4), some v23, some (.d (.sl ((a1).map encTree0) false)), some (.d (.sl ((a2).map (D.int .i64)) false)), some (.d (.int .i64 x24)), some (.d (encTree z34)), some (.d (.sl (([z34]).map encTree) true)), some v41, some (.ptr b8 0 4), none], (.old (.refl _) (.old (.refl _) (.old (.refl _) (.old (.refl _) (.old (.refl _) (.old (.refl _) (.old (.refl _) (.new (.new (.new .nil)))))))))), (fun _ ht => by cases ht; exact ⟨_, rfl, .refl _⟩), ?_⟩
            refine ⟨[8], by kernel_rfl, ?_, _, _, rfl, rfl, .step ?_⟩
            ·
              refine .cons rfl rfl rfl (.step ?_) ?_
              ·
                refine wpO.val rfl (oper_fieldAddr rfl fo28_4 nz26 rfl) rfl ?_
                exact wpO.nil ⟨_, _, rfl, fun _ ht => by cases ht; exact ⟨rfl, .refl _⟩⟩
              exact .nil
            refine wpO.store H43 (i := 0) rfl rfl rfl rfl (grow_toD (H43.at (i := 2) rfl)).2.2.2.2 rfl sz26 (grow_toD (H43.at (i := 2) rfl)).2.2.2.1 as26 rfl rfl rfl (fun S44 H45 => ?_)
            refine wpO.nil ⟨_, .any, _, rfl, (fun _ ht => by cases ht), [some (.ptr b8 0 4), some v23, some (.d (.sl ((a1).map encTree0) false)), some (.d (.sl ((a2).map (D.int .i64)) false)), some (.d (.int .i64 x24)), some (.d (encTree z34)), some (.d (.sl (([z34]).map encTree) true)), some v41, some (.ptr b8 0 4), some .any], (.old (.refl _) (.old (.refl _) (.old (.refl _) (.old (.refl _) (.old (.refl _) (.old (.refl _) (.old (.refl _) (.old (.refl _) (.old (.refl _) (.new .nil)))))))))), (fun _ ht => by cases ht), ?_⟩
            refine ⟨[], by kernel_rfl, ?_, _, rfl, ?_⟩
            ·
              exact .nil
            exact ⟨⟨z35, v41⟩, _, _, S44, .refl _ _, .refl _, (WeakE.cons rfl (.refl _) (WeakE.cons rfl (.refl _) (WeakE.cons rfl (.refl _) (WeakE.cons rfl (.refl _) (WeakE.cons rfl (.refl _) (WeakE.cons rfl (.refl _) (WeakE.cons rfl (.refl _) WeakE.nil))))))), H45.sel [0, 1, 2] (by decide) rfl, h⟩
          ·
            replace h := if_f hb33 h
            refine WpC.skip ?_
            exact ⟨⟨x22, v23⟩, _, _, S20, .refl _ _, .refl _, (WeakE.cons rfl (.refl _) (WeakE.cons rfl (.refl _) (WeakE.cons rfl (.refl _) (WeakE.cons rfl (.refl _) (WeakE.cons rfl (.refl _) (WeakE.cons rfl (.refl _) (WeakE.cons rfl (.refl _) WeakE.nil))))))), H21.sel [0, 1, 2] (by decide) rfl, h⟩
      ·
        replace h := if_f hb26 h
        refine WpC.exit ?_
        refine WpC.seq ?_
        refine WpC.region E.obj rfl ?_
        refine wpO.val rfl (oper_load H21 (i := 0) rfl rfl (part_agg ag28 sz28 rfl)) rfl ?_
        refine wpO.less (Less.agg' (d := encTree (Tree.mk z7.Tag z7.Key z7.Text z7.Attrs x22)) (CellsC.eq rfl (CellsC.eq rfl (CellsC.eq rfl (CellsC.eq rfl (CellsC.grow H21 (i := 2) rfl .nil))))) ((Tree.eq _).trans rfl)) ?_
        refine wpO.store H21 (i := 1) rfl rfl rfl rfl (Tree.cellsA _) rfl sz28 rfl as28 rfl rfl rfl (fun S46 H47 => ?_)
        refine wpO.nil ?_
        have hr := Option.some.inj h
        subst hr
        exact WpC.ret ⟨_, resultsE_cell H47 (i := 1) rfl rfl rfl (part_agg ag28 sz28 rfl), rfl, end1 (ArgsC.less_agg (d := encTree (Tree.mk z7.Tag z7.Key z7.Text z7.Attrs x22)) (CellsC.eq rfl (CellsC.eq rfl (CellsC.eq rfl (CellsC.eq rfl (CellsC.eq rfl .nil))))) ((Tree.eq _).trans rfl))⟩
set_option maxHeartbeats 4000000 in
theorem porticokeep_Wood_Tree_ok (n : Nat) (a1 : K_Wood) (r : Tree) (h : porticokeep_Wood_Tree n a1 = some r) : SpecC R cfg.P 6 [(encK_Wood a1)] (.d (encTree r)) := by
  unfold porticokeep_Wood_Tree at h
  refine SpecC.of_wp E.obj.toObjOk (C := cfg) Tryd.func6 rfl nm6 rfl ?_
  have H0 : Has pureSt pureSt [] := Has.pure
  refine WpC.seq ?_
  refine WpC.region E.obj rfl ?_
  refine wpO.box H0 rfl rfl rfl (K_Wood.cellsA _) rfl (fun b2 S3 H4 => ?_)
  refine wpO.alloc H4 rfl ob28 zo28 rfl rfl (fun b5 S6 H7 => ?_)
  refine wpO.nil ?_
  refine WpC.seq ?_
  refine WpC.region E.obj rfl ?_
  refine wpO.val rfl (oper_buildSlice (vs := [(.d (.str [97])), (.d (.str [98])), (.d (.str [108, 105])), (.d (.str [111, 117, 116, 108, 101, 116]))]) (ds := [(.str [97]), (.str [98]), (.str [108, 105]), (.str [111, 117, 116, 108, 101, 116])]) rw44 el44 ag9 zo9 sz9 rfl (by decide) (.cons rfl rfl (.cons rfl rfl (.cons rfl rfl (.cons rfl rfl .nil)))) rfl (by intro d hd; simp only [List.mem_cons, List.not_mem_nil, or_false] at hd; rcases hd with rfl | rfl | rfl | rfl <;> rfl) rfl) rfl ?_
  refine wpO.val rfl (oper_assign rfl) rfl ?_
  refine wpO.nil ?_
  refine WpC.seq ?_
  refine WpC.region E.obj rfl ?_
  obtain ⟨z8, hzz8, h⟩ := bind_some h
  refine wpO.ret rfl (oper_callF rfl rfl) (porticokeep_Words_ok E _  _ hzz8 _ _ .nil) rfl ?_
  refine wpO.val rfl (oper_assign rfl) rfl ?_
  refine wpO.nil ?_
  refine WpC.seq ?_
  refine WpC.region E.obj rfl ?_
  refine wpO.val rfl (oper_build (cs := [(.d (.str [100, 105, 118])), (.d (.str [])), (.d (.str [])), (.d .nils), (.d .nils)]) zo28 rfl (place_struct28) (fill1 rfl rfl rfl rfl rfl)) rfl ?_
  refine wpO.less (Less.agg' (d := encTree0 (Tree0.mk [100, 105, 118] [] [] [])) (CellsC.eq rfl (CellsC.eq rfl (CellsC.eq rfl (CellsC.consW rfl (.nils false) rfl rfl (CellsC.eq rfl .nil))))) ((Tree0.eq _).trans rfl)) ?_
  refine wpO.val rfl (oper_buildSlice (vs := [(.d (encTree0 (Tree0.mk [100, 105, 118] [] [] [])))]) (ds := [(encTree0 (Tree0.mk [100, 105, 118] [] [] []))]) rw26 el26 ag28 zo28 sz28 rfl (by decide) (.cons rfl (Tree0.len _) .nil) rfl (by intro d hd; simp only [List.mem_cons, List.not_mem_nil, or_false] at hd; rcases hd with rfl <;> exact Tree0.agg _) rfl) rfl ?_
  refine wpO.val rfl (oper_assign rfl) rfl ?_
  refine wpO.nil ?_
  refine WpC.seq ?_
  refine WpC.region E.obj rfl ?_
  refine wpO.val rfl (oper_buildSlice (vs := [(.d (.int .i64 (-1)))]) (ds := [(.int .i64 (-1))]) rw22 el22 ag3 zo3 sz3 rfl (by decide) (.cons rfl rfl .nil) rfl (by intro d hd; simp only [List.mem_cons, List.not_mem_nil, or_false] at hd; rcases hd with rfl <;> rfl) rfl) rfl ?_
  refine wpO.val rfl (oper_assign rfl) rfl ?_
  refine wpO.nil ?_
  refine WpC.seq ?_
  refine WpC.seq ?_
  refine WpC.region E.obj rfl ?_
  refine wpO.val rfl (oper_assign rfl) rfl ?_
  refine wpO.nil ?_
  refine WpC.block ?_
  have H93 := H7.tightG (([(Tree0.mk [100, 105, 118] [] [] [])]).map encTree0)
  have H94 := H93.tightG (([(-1)]).map (D.int .i64))
  refine WpL.start (B := pureSt) (α := (List Tree0) × AV × (List Int) × AV × Int) (fun k a => porticokeep_Wood_Tree_l25 n a1 z8 k a.1 a.2.2.1 a.2.2.2.2 = some r) (fun a => [(1, (.ptr b2 0 0)), (2, (.ptr b5 0 0)), (3, (.d (.sl (([[97], [98], [108, 105], [111, 117, 116, 108, 101, 116]]).map D.str) true))), (4, (.d (.sl ((z8).map D.str) false))), (5, a.2.1), (6, a.2.2.2.1), (7, (.d (.int .i64 a.2.2.2.2)))]) (fun a => [.box b5 [(.d (.str [])), (.d (.str [])), (.d (.str [])), (.d .nils), (.d .nils)], .box b2 [(.d (.sl ((a1.Under).map (D.int .i64)) false)), (.d (.sl ((a1.Kinds).map (D.int .i64)) false)), (.d (.sl ((a1.Keys).map (D.int .i64)) false)), (.d (.sl ((a1.Texts).map (D.int .i64)) false))], .grow a.2.1 ((a.1).map encTree0), .grow a.2.2.2.1 ((a.2.2.1).map (D.int .i64))]) ?_ ?_ n ⟨⟨[(Tree0.mk [100, 105, 118] [] [] [])], (.d (.sl (([(Tree0.mk [100, 105, 118] [] [] [])]).map encTree0) true)), [(-1)], (.d (.sl (([(-1)]).map (D.int .i64)) true)), 0⟩, _, _, S6, .refl _ _, .refl _, (WeakE.cons rfl (.refl _) (WeakE.cons rfl (.refl _) (WeakE.cons rfl (.refl _) (WeakE.cons rfl (.refl _) (WeakE.cons rfl (.refl _) (WeakE.cons rfl (.refl _) (WeakE.cons rfl (.refl _) WeakE.nil))))))), H94.sel [2, 3, 1, 0] (by decide) rfl, h⟩
  · intro a h; simp [porticokeep_Wood_Tree_l25] at h
  ·
    intro k25 a S18 H19 h
    obtain ⟨x20, v21, x22, v23, x24⟩ := a
    replace h : porticokeep_Wood_Tree_l25 n a1 z8 (k25 + 1) x20 x22 x24 = some r := h
    replace H19 : Has pureSt S18 [.box b5 [(.d (.str [])), (.d (.str [])), (.d (.str [])), (.d .nils), (.d .nils)], .box b2 [(.d (.sl ((a1.Under).map (D.int .i64)) false)), (.d (.sl ((a1.Kinds).map (D.int .i64)) false)), (.d (.sl ((a1.Keys).map (D.int .i64)) false)), (.d (.sl ((a1.Texts).map (D.int .i64)) false))], .grow v21 ((x20).map encTree0), .grow v23 ((x22).map (D.int .i64))] := H19
    unfold porticokeep_Wood_Tree_l25 at h
    refine WpC.seq ?_
    refine WpC.seq ?_
    refine WpC.region E.obj rfl ?_
    refine wpO.val rfl (oper_move rfl) rfl ?_
    refine wpO.val rfl (oper_fieldAddr rfl fo24_0 nz22 rfl) rfl ?_
    refine wpO.val rfl (oper_load H19 (i := 1) rfl rfl (part_one ag22 rfl)) rfl ?_
    refine wpO.val rfl (oper_lenL rfl es22) rfl ?_
    refine wpO.val rfl (oper_bin rfl rfl binD_lss) rfl ?_
    refine wpO.val rfl (oper_move rfl) rfl ?_
    refine wpO.groupV 3 25 (.d (.bool ((decide (x24 < ((a1.Under).length : Int))) && (decide (x24 < 12))))) ?_ ?_
    ·
      rcases Bool.eq_false_or_eq_true ((decide (x24 < ((a1.Under).length : Int)))) with hB26 | hB26
      ·
        refine wpO.bool hB26 ?_
        refine wpO.val rfl (oper_move rfl) rfl ?_
        refine wpO.val rfl (oper_bin rfl rfl binD_lss) rfl ?_
        refine wpO.val rfl (oper_pick (b := true) rfl rfl) rfl ?_
        exact wpO.nil ⟨_, rfl, (WeakE.put (WeakE.push rfl (WeakE.push rfl (WeakE.put (.refl _) (Less.eq (by rw [hB26]))))) (Less.eq (by rw [hB26]; rw [Bool.true_and])))⟩
      ·
        refine wpO.bool hB26 ?_
        refine wpO.no rfl rfl ?_
        refine wpO.no rfl rfl ?_
        refine wpO.val rfl (oper_pick (b := false) rfl rfl) rfl ?_
        exact wpO.nil ⟨_, rfl, (WeakE.put (WeakE.push rfl (WeakE.push rfl (WeakE.put (.refl _) (Less.eq (by rw [hB26]))))) (Less.eq (by rw [hB26]; rw [Bool.false_and])))⟩
    ·
      refine wpO.nil ?_
      refine WpC.cond rfl (fun hb27 => ?_) (fun hb27 => ?_)
      ·
        replace h := if_t hb27 h
        refine WpC.skip ?_
        refine WpC.seq ?_
        refine WpC.block ?_
        refine WpC.seq ?_
        refine WpC.region E.obj rfl ?_
        refine wpO.val rfl (oper_fieldAddr rfl fo24_0 nz22 rfl) rfl ?_
        refine wpO.val rfl (oper_load H19 (i := 1) rfl rfl (part_one ag22 rfl)) rfl ?_
        refine wpO.val rfl (oper_move rfl) rfl ?_
        obtain ⟨z28, hzz28, h⟩ := bind_some h
        refine wpO.val rfl (oper_idx rfl rfl (idxAddr (enc := (D.int .i64)) hzz28 el22 as3 (((fun _ => rfl) _).trans sz3.symm))) rfl ?_
        refine wpO.val rfl (oper_loadE rfl (partD_one ag3 rfl)) rfl ?_
        refine wpO.val rfl (oper_move rfl) rfl ?_
        refine wpO.val rfl (oper_lenG H19 (i := 2) rfl rfl es26) rfl ?_
        refine wpO.val rfl (oper_bin rfl rfl binD_sub) rfl ?_
        obtain ⟨z29, hzz29, h⟩ := bind_some h
        refine wpO.ret rfl (oper_callF rfl rfl) (porticobook_Within_ok E _ _ _ _ _ hzz29 _ _ (ArgsC.eq (ArgsC.eq (ArgsC.eq .nil)))) rfl ?_
        refine wpO.val rfl (oper_assign rfl) rfl ?_
        refine wpO.nil ?_
        refine WpC.join (B := pureSt) (α := Int) (fun a => porticokeep_Wood_Tree_j33 n a1 z8 x20 x22 x24 (porticokeep_Wood_Tree_l25 n a1 z8 k25) a = some r) (fun a => [(1, (.ptr b2 0 0)), (2, (.ptr b5 0 0)), (3, (.d (.sl (([[97], [98], [108, 105], [111, 117, 116, 108, 101, 116]]).map D.str) true))), (4, (.d (.sl ((z8).map D.str) false))), (5, v21), (6, v23), (7, (.d (.int .i64 x24))), (8, (.d (.int .i64 a)))]) (fun a => [.box b5 [(.d (.str [])), (.d (.str [])), (.d (.str [])), (.d .nils), (.d .nils)], .box b2 [(.d (.sl ((a1.Under).map (D.int .i64)) false)), (.d (.sl ((a1.Kinds).map (D.int .i64)) false)), (.d (.sl ((a1.Keys).map (D.int .i64)) false)), (.d (.sl ((a1.Texts).map (D.int .i64)) false))], .grow v21 ((x20).map encTree0), .grow v23 ((x22).map (D.int .i64))]) ?_ ?_
        ·
          intro x32 S30 H31 h
          replace h : porticokeep_Wood_Tree_j33 n a1 z8 x20 x22 x24 (porticokeep_Wood_Tree_l25 n a1 z8 k25) x32 = some r := h
          replace H31 : Has pureSt S30 [.box b5 [(.d (.str [])), (.d (.str [])), (.d (.str [])), (.d .nils), (.d .nils)], .box b2 [(.d (.sl ((a1.Under).map (D.int .i64)) false)), (.d (.sl ((a1.Kinds).map (D.int .i64)) false)), (.d (.sl ((a1.Keys).map (D.int .i64)) false)), (.d (.sl ((a1.Texts).map (D.int .i64)) false))], .grow v21 ((x20).map encTree0), .grow v23 ((x22).map (D.int .i64))] := H31
          unfold porticokeep_Wood_Tree_j33 at h
          refine WpC.seq ?_
          refine WpC.region E.obj rfl ?_
          refine wpO.val rfl (oper_move rfl) rfl ?_
          refine wpO.val rfl (oper_fieldAddr rfl fo24_3 nz22 rfl) rfl ?_
          refine wpO.val rfl (oper_load H31 (i := 1) rfl rfl (part_one ag22 rfl)) rfl ?_
          refine wpO.val rfl (oper_move rfl) rfl ?_
          obtain ⟨z34, hzz34, h⟩ := bind_some h
          refine wpO.ret rfl (oper_callF rfl rfl) (porticokeep_pick_ok E _ _ _ _ hzz34 _ _ (ArgsC.eq (ArgsC.eq .nil))) rfl ?_
          refine wpO.val rfl (oper_move rfl) rfl ?_
          refine wpO.val rfl (oper_lenL rfl es44) rfl ?_
          refine wpO.val rfl (oper_bin rfl rfl binD_sub) rfl ?_
          obtain ⟨z35, hzz35, h⟩ := bind_some h
          refine wpO.ret rfl (oper_callF rfl rfl) (porticobook_Within_ok E _ _ _ _ _ hzz35 _ _ (ArgsC.eq (ArgsC.eq (ArgsC.eq .nil)))) rfl ?_
          obtain ⟨z36, hzz36, h⟩ := bind_some h
          refine wpO.val rfl (oper_idx rfl rfl (idxAddr (enc := D.str) hzz36 el44 as9 (((fun _ => rfl) _).trans sz9.symm))) rfl ?_
          refine wpO.val rfl (oper_loadE rfl (partD_one ag9 rfl)) rfl ?_
          refine wpO.val rfl (oper_build (cs := [(.d (.str [])), (.d (.str [])), (.d (.str z36)), (.d .nils), (.d .nils)]) zo28 rfl (place_struct28) (fill1 rfl rfl rfl rfl rfl)) rfl ?_
          refine wpO.less (Less.agg' (d := encTree0 (Tree0.mk [] [] z36 [])) (CellsC.eq rfl (CellsC.eq rfl (CellsC.eq rfl (CellsC.consW rfl (.nils false) rfl rfl (CellsC.eq rfl .nil))))) ((Tree0.eq _).trans rfl)) ?_
          refine wpO.alloc H31 rfl ob28 zo28 rfl rfl (fun b37 S38 H39 => ?_)
          refine wpO.store H39 (i := 0) rfl rfl rfl rfl (Tree0.cellsA _) rfl sz28 rfl as28 rfl rfl rfl (fun S40 H41 => ?_)
          refine wpO.nil ?_
          refine WpC.join (B := pureSt) (α := Str × Str × Str × (List Attr)) (fun a => porticokeep_Wood_Tree_j48 n x20 x22 x24 (porticokeep_Wood_Tree_l25 n a1 z8 k25) x32 a.1 a.2.1 a.2.2.1 a.2.2.2 = some r) (fun a => [(1, (.ptr b2 0 0)), (2, (.ptr b5 0 0)), (3, (.d (.sl (([[97], [98], [108, 105], [111, 117, 116, 108, 101, 116]]).map D.str) true))), (4, (.d (.sl ((z8).map D.str) false))), (5, v21), (6, v23), (7, (.d (.int .i64 x24))), (8, (.d (.int .i64 x32))), (9, (.ptr b37 0 0))]) (fun a => [.box b37 [(.d (.str a.1)), (.d (.str a.2.1)), (.d (.str a.2.2.1)), (.d (.sl ((a.2.2.2).map encAttr) false)), (.d .nils)], .box b5 [(.d (.str [])), (.d (.str [])), (.d (.str [])), (.d .nils), (.d .nils)], .box b2 [(.d (.sl ((a1.Under).map (D.int .i64)) false)), (.d (.sl ((a1.Kinds).map (D.int .i64)) false)), (.d (.sl ((a1.Keys).map (D.int .i64)) false)), (.d (.sl ((a1.Texts).map (D.int .i64)) false))], .grow v21 ((x20).map encTree0), .grow v23 ((x22).map (D.int .i64))]) ?_ ?_
          ·
            intro a S42 H43 h
            obtain ⟨x44, x45, x46, x47⟩ := a
            replace h : porticokeep_Wood_Tree_j48 n x20 x22 x24 (porticokeep_Wood_Tree_l25 n a1 z8 k25) x32 x44 x45 x46 x47 = some r := h
            replace H43 : Has pureSt S42 [.box b37 [(.d (.str x44)), (.d (.str x45)), (.d (.str x46)), (.d (.sl ((x47).map encAttr) false)), (.d .nils)], .box b5 [(.d (.str [])), (.d (.str [])), (.d (.str [])), (.d .nils), (.d .nils)], .box b2 [(.d (.sl ((a1.Under).map (D.int .i64)) false)), (.d (.sl ((a1.Kinds).map (D.int .i64)) false)), (.d (.sl ((a1.Keys).map (D.int .i64)) false)), (.d (.sl ((a1.Texts).map (D.int .i64)) false))], .grow v21 ((x20).map encTree0), .grow v23 ((x22).map (D.int .i64))] := H43
            unfold porticokeep_Wood_Tree_j48 at h
            refine WpC.join (B := pureSt) (α := Int) (fun a => porticokeep_Wood_Tree_j52 x20 x22 x24 (porticokeep_Wood_Tree_l25 n a1 z8 k25) x44 x45 x46 x47 a = some r) (fun a => [(1, (.ptr b2 0 0)), (2, (.ptr b5 0 0)), (3, (.d (.sl (([[97], [98], [108, 105], [111, 117, 116, 108, 101, 116]]).map D.str) true))), (4, (.d (.sl ((z8).map D.str) false))), (5, v21), (6, v23), (7, (.d (.int .i64 x24))), (8, (.d (.int .i64 a))), (9, (.ptr b37 0 0))]) (fun a => [.box b37 [(.d (.str x44)), (.d (.str x45)), (.d (.str x46)), (.d (.sl ((x47).map encAttr) false)), (.d .nils)], .box b5 [(.d (.str [])), (.d (.str [])), (.d (.str [])), (.d .nils), (.d .nils)], .box b2 [(.d (.sl ((a1.Under).map (D.int .i64)) false)), (.d (.sl ((a1.Kinds).map (D.int .i64)) false)), (.d (.sl ((a1.Keys).map (D.int .i64)) false)), (.d (.sl ((a1.Texts).map (D.int .i64)) false))], .grow v21 ((x20).map encTree0), .grow v23 ((x22).map (D.int .i64))]) ?_ ?_
            ·
              intro x51 S49 H50 h
              replace h : porticokeep_Wood_Tree_j52 x20 x22 x24 (porticokeep_Wood_Tree_l25 n a1 z8 k25) x44 x45 x46 x47 x51 = some r := h
              replace H50 : Has pureSt S49 [.box b37 [(.d (.str x44)), (.d (.str x45)), (.d (.str x46)), (.d (.sl ((x47).map encAttr) false)), (.d .nils)], .box b5 [(.d (.str [])), (.d (.str [])), (.d (.str [])), (.d .nils), (.d .nils)], .box b2 [(.d (.sl ((a1.Under).map (D.int .i64)) false)), (.d (.sl ((a1.Kinds).map (D.int .i64)) false)), (.d (.sl ((a1.Keys).map (D.int .i64)) false)), (.d (.sl ((a1.Texts).map (D.int .i64)) false))], .grow v21 ((x20).map encTree0), .grow v23 ((x22).map (D.int .i64))] := H50
              unfold porticokeep_Wood_Tree_j52 at h
              refine WpC.region E.obj rfl ?_
              refine wpO.val rfl (oper_move rfl) rfl ?_
              refine wpO.val rfl (oper_load H50 (i := 0) rfl rfl (part_agg ag28 sz28 rfl)) rfl ?_
              refine wpO.less (Less.agg' (d := encTree0 (Tree0.mk x44 x45 x46 x47)) (CellsC.eq rfl (CellsC.eq rfl (CellsC.eq rfl (CellsC.eq rfl (CellsC.eq rfl .nil))))) ((Tree0.eq _).trans rfl)) ?_
              refine wpO.val rfl (oper_buildSlice (vs := [(.d (encTree0 (Tree0.mk x44 x45 x46 x47)))]) (ds := [(encTree0 (Tree0.mk x44 x45 x46 x47))]) rw26 el26 ag28 zo28 sz28 rfl (by decide) (.cons rfl (Tree0.len _) .nil) rfl (by intro d hd; simp only [List.mem_cons, List.not_mem_nil, or_false] at hd; rcases hd with rfl <;> exact Tree0.agg _) rfl) rfl ?_
              obtain ⟨z53, hzz53, h⟩ := bind_some h
              refine wpO.append (xs := (x20).map encTree0) (ys := ([(Tree0.mk x44 x45 x46 x47)]).map encTree0) (zs := (z53).map encTree0) H50 rfl rfl rfl (i := 3) rfl rfl rw26 os26 el26 (app_bound hzz53) nb28 rfl (sizes_map (enc := encTree0) (fun z => (Tree0.len z).trans sz28.symm) _) (sizes_map (enc := encTree0) (fun z => (Tree0.len z).trans sz28.symm) _) zk28 rfl (app_eq hzz53) (fun v54 S55 H56 => ?_)
              refine wpO.val rfl (oper_move rfl) rfl ?_
              refine wpO.val rfl (oper_move rfl) rfl ?_
              refine wpO.val rfl (oper_buildSlice (vs := [(.d (.int .i64 x51))]) (ds := [(.int .i64 x51)]) rw22 el22 ag3 zo3 sz3 rfl (by decide) (.cons rfl rfl .nil) rfl (by intro d hd; simp only [List.mem_cons, List.not_mem_nil, or_false] at hd; rcases hd with rfl <;> rfl) rfl) rfl ?_
              obtain ⟨z57, hzz57, h⟩ := bind_some h
              refine wpO.append (xs := (x22).map (D.int .i64)) (ys := ([x51]).map (D.int .i64)) (zs := (z57).map (D.int .i64)) H56 rfl rfl rfl (i := 4) rfl rfl rw22 os22 el22 (app_bound hzz57) nb3 rfl (sizes_map (enc := (D.int .i64)) (fun _ => sz3.symm) _) (sizes_map (enc := (D.int .i64)) (fun _ => sz3.symm) _) zk3 rfl (app_eq hzz57) (fun v58 S59 H60 => ?_)
              refine wpO.val rfl (oper_assign rfl) rfl ?_
              refine wpO.val rfl (oper_assign rfl) rfl ?_
              refine wpO.nil ?_
              refine WpC.region E.obj rfl ?_
              refine wpO.val rfl (oper_move rfl) rfl ?_
              refine wpO.val rfl (oper_bin rfl rfl binD_add) rfl ?_
              refine wpO.val rfl (oper_assign rfl) rfl ?_
              refine wpO.nil ?_
              exact ⟨⟨z53, v54, z57, v58, (IntKind.wrap .i64 (x24 + 1))⟩, _, _, S59, .refl _ _, .refl _, (WeakE.cons rfl (.refl _) (WeakE.cons rfl (.refl _) (WeakE.cons rfl (.refl _) (WeakE.cons rfl (.refl _) (WeakE.cons rfl (.refl _) (WeakE.cons rfl (.refl _) (WeakE.cons rfl (.refl _) WeakE.nil))))))), H60.sel [1, 2, 3, 4] (by decide) rfl, h⟩
            ·
              refine WpC.seq ?_
              refine WpC.region E.obj rfl ?_
              refine wpO.val rfl (oper_move rfl) rfl ?_
              refine wpO.val rfl (oper_move rfl) rfl ?_
              obtain ⟨z61, hzz61, h⟩ := bind_some h
              refine wpO.ret rfl (oper_callF rfl rfl) (porticokeep_deep_ok E _ _ _ _ hzz61 _ _ (ArgsC.grow H43 (i := 4) rfl (ArgsC.eq .nil))) rfl ?_
              refine wpO.val rfl (oper_bin rfl rfl binD_gtr) rfl ?_
              refine wpO.nil ?_
              refine WpC.cond rfl (fun hb62 => ?_) (fun hb62 => ?_)
              ·
                replace h := if_t hb62 h
                refine WpC.region E.obj rfl ?_
                refine wpO.val rfl (oper_assign rfl) rfl ?_
                refine wpO.nil ?_
                exact ⟨0, _, _, S42, .refl _ _, .refl _, (WeakE.cons rfl (.refl _) (WeakE.cons rfl (.refl _) (WeakE.cons rfl (.refl _) (WeakE.cons rfl (.refl _) (WeakE.cons rfl (.refl _) (WeakE.cons rfl (.refl _) (WeakE.cons rfl (.refl _) (WeakE.cons rfl (.refl _) (WeakE.cons rfl (.refl _) WeakE.nil))))))))), H43.sel [0, 1, 2, 3, 4] (by decide) rfl, h⟩
              ·
                replace h := if_f hb62 h
                refine WpC.skip ?_
                exact ⟨x32, _, _, S42, .refl _ _, .refl _, (WeakE.cons rfl (.refl _) (WeakE.cons rfl (.refl _) (WeakE.cons rfl (.refl _) (WeakE.cons rfl (.refl _) (WeakE.cons rfl (.refl _) (WeakE.cons rfl (.refl _) (WeakE.cons rfl (.refl _) (WeakE.cons rfl (.refl _) (WeakE.cons rfl (.refl _) WeakE.nil))))))))), H43.sel [0, 1, 2, 3, 4] (by decide) rfl, h⟩
          ·
            refine WpC.seq ?_
            refine WpC.region E.obj rfl ?_
            refine wpO.val rfl (oper_fieldAddr rfl fo24_1 nz22 rfl) rfl ?_
            refine wpO.val rfl (oper_load H41 (i := 2) rfl rfl (part_one ag22 rfl)) rfl ?_
            refine wpO.val rfl (oper_move rfl) rfl ?_
            obtain ⟨z63, hzz63, h⟩ := bind_some h
            refine wpO.ret rfl (oper_callF rfl rfl) (porticokeep_pick_ok E _ _ _ _ hzz63 _ _ (ArgsC.eq (ArgsC.eq .nil))) rfl ?_
            obtain ⟨z64, hzz64, h⟩ := bind_some h
            refine wpO.ret rfl (oper_callF rfl rfl) (porticobook_Within_ok E _ _ _ _ _ hzz64 _ _ (ArgsC.eq (ArgsC.eq (ArgsC.eq .nil)))) rfl ?_
            refine wpO.val rfl (oper_assign rfl) rfl ?_
            refine wpO.nil ?_
            refine WpC.seq ?_
            refine WpC.region E.obj rfl ?_
            refine wpO.val rfl (oper_move rfl) rfl ?_
            refine wpO.val rfl (oper_bin rfl rfl binD_lss) rfl ?_
            refine wpO.nil ?_
            refine WpC.cond rfl (fun hb65 => ?_) (fun hb65 => ?_)
            ·
              replace h := if_t hb65 h
              refine WpC.seq ?_
              refine WpC.region E.obj rfl ?_
              refine wpO.val rfl (oper_move rfl) rfl ?_
              refine wpO.val rfl (oper_move rfl) rfl ?_
              obtain ⟨z66, hzz66, h⟩ := bind_some h
              refine wpO.val rfl (oper_idx rfl rfl (idxAddr (enc := D.str) hzz66 el44 as9 (((fun _ => rfl) _).trans sz9.symm))) rfl ?_
              refine wpO.val rfl (oper_loadE rfl (partD_one ag9 rfl)) rfl ?_
              refine wpO.val rfl (oper_build (cs := [(.d (.str z66)), (.d (.str [])), (.d (.str [])), (.d .nils), (.d .nils)]) zo28 rfl (place_struct28) (fill1 rfl rfl rfl rfl rfl)) rfl ?_
              refine wpO.less (Less.agg' (d := encTree0 (Tree0.mk z66 [] [] [])) (CellsC.eq rfl (CellsC.eq rfl (CellsC.eq rfl (CellsC.consW rfl (.nils false) rfl rfl (CellsC.eq rfl .nil))))) ((Tree0.eq _).trans rfl)) ?_
              refine wpO.store H41 (i := 0) rfl rfl rfl rfl (Tree0.cellsA _) rfl sz28 rfl as28 rfl rfl rfl (fun S67 H68 => ?_)
              refine wpO.nil ?_
              refine WpC.join (B := pureSt) (α := Str) (fun a => porticokeep_Wood_Tree_j72 n a1 z8 x20 x22 x24 (porticokeep_Wood_Tree_l25 n a1 z8 k25) x32 z66 a = some r) (fun a => [(1, (.ptr b2 0 0)), (2, (.ptr b5 0 0)), (3, (.d (.sl (([[97], [98], [108, 105], [111, 117, 116, 108, 101, 116]]).map D.str) true))), (4, (.d (.sl ((z8).map D.str) false))), (5, v21), (6, v23), (7, (.d (.int .i64 x24))), (8, (.d (.int .i64 x32))), (9, (.ptr b37 0 0))]) (fun a => [.box b37 [(.d (.str (Tree0.mk z66 [] [] []).Tag)), (.d (.str a)), (.d (.str (Tree0.mk z66 [] [] []).Text)), (.d (.sl (((Tree0.mk z66 [] [] []).Attrs).map encAttr) false)), (.d .nils)], .box b5 [(.d (.str [])), (.d (.str [])), (.d (.str [])), (.d .nils), (.d .nils)], .box b2 [(.d (.sl ((a1.Under).map (D.int .i64)) false)), (.d (.sl ((a1.Kinds).map (D.int .i64)) false)), (.d (.sl ((a1.Keys).map (D.int .i64)) false)), (.d (.sl ((a1.Texts).map (D.int .i64)) false))], .grow v21 ((x20).map encTree0), .grow v23 ((x22).map (D.int .i64))]) ?_ ?_
              ·
                intro x71 S69 H70 h
                replace h : porticokeep_Wood_Tree_j72 n a1 z8 x20 x22 x24 (porticokeep_Wood_Tree_l25 n a1 z8 k25) x32 z66 x71 = some r := h
                replace H70 : Has pureSt S69 [.box b37 [(.d (.str (Tree0.mk z66 [] [] []).Tag)), (.d (.str x71)), (.d (.str (Tree0.mk z66 [] [] []).Text)), (.d (.sl (((Tree0.mk z66 [] [] []).Attrs).map encAttr) false)), (.d .nils)], .box b5 [(.d (.str [])), (.d (.str [])), (.d (.str [])), (.d .nils), (.d .nils)], .box b2 [(.d (.sl ((a1.Under).map (D.int .i64)) false)), (.d (.sl ((a1.Kinds).map (D.int .i64)) false)), (.d (.sl ((a1.Keys).map (D.int .i64)) false)), (.d (.sl ((a1.Texts).map (D.int .i64)) false))], .grow v21 ((x20).map encTree0), .grow v23 ((x22).map (D.int .i64))] := H70
                unfold porticokeep_Wood_Tree_j72 at h
                refine WpC.seq ?_
                refine WpC.region E.obj rfl ?_
                refine wpO.val rfl (oper_fieldAddr rfl fo24_3 nz22 rfl) rfl ?_
                refine wpO.val rfl (oper_load H70 (i := 2) rfl rfl (part_one ag22 rfl)) rfl ?_
                refine wpO.val rfl (oper_move rfl) rfl ?_
                obtain ⟨z73, hzz73, h⟩ := bind_some h
                refine wpO.ret rfl (oper_callF rfl rfl) (porticokeep_pick_ok E _ _ _ _ hzz73 _ _ (ArgsC.eq (ArgsC.eq .nil))) rfl ?_
                refine wpO.val rfl (oper_bin rfl rfl binD_and) rfl ?_
                refine wpO.val rfl (oper_bin rfl rfl binD_eql) rfl ?_
                refine wpO.nil ?_
                refine WpC.cond rfl (fun hb74 => ?_) (fun hb74 => ?_)
                ·
                  replace h := if_t hb74 h
                  refine WpC.region E.obj rfl ?_
                  refine wpO.val rfl (oper_move rfl) rfl ?_
                  refine wpO.val rfl (oper_fieldAddr rfl fo24_3 nz22 rfl) rfl ?_
                  refine wpO.val rfl (oper_load H70 (i := 2) rfl rfl (part_one ag22 rfl)) rfl ?_
                  refine wpO.val rfl (oper_move rfl) rfl ?_
                  refine wpO.val rfl (oper_bin rfl rfl binD_add) rfl ?_
                  obtain ⟨z75, hzz75, h⟩ := bind_some h
                  refine wpO.ret rfl (oper_callF rfl rfl) (porticokeep_pick_ok E _ _ _ _ hzz75 _ _ (ArgsC.eq (ArgsC.eq .nil))) rfl ?_
                  refine wpO.val rfl (oper_move rfl) rfl ?_
                  refine wpO.val rfl (oper_lenL rfl es44) rfl ?_
                  refine wpO.val rfl (oper_bin rfl rfl binD_sub) rfl ?_
                  obtain ⟨z76, hzz76, h⟩ := bind_some h
                  refine wpO.ret rfl (oper_callF rfl rfl) (porticobook_Within_ok E _ _ _ _ _ hzz76 _ _ (ArgsC.eq (ArgsC.eq (ArgsC.eq .nil)))) rfl ?_
                  obtain ⟨z77, hzz77, h⟩ := bind_some h
                  refine wpO.val rfl (oper_idx rfl rfl (idxAddr (enc := D.str) hzz77 el44 as9 (((fun _ => rfl) _).trans sz9.symm))) rfl ?_
                  refine wpO.val rfl (oper_loadE rfl (partD_one ag9 rfl)) rfl ?_
                  refine wpO.val rfl (oper_build (cs := [(.d (.str [120])), (.d (.str z77))]) zo36 rfl (place_struct36) (fill1 rfl rfl rfl rfl (fill1 rfl rfl rfl rfl rfl))) rfl ?_
                  refine wpO.less (Less.agg' (d := encAttr (Attr.mk [120] z77)) (CellsC.eq rfl (CellsC.eq rfl .nil)) ((Attr.eq _).trans rfl)) ?_
                  refine wpO.val rfl (oper_buildSlice (vs := [(.d (encAttr (Attr.mk [120] z77)))]) (ds := [(encAttr (Attr.mk [120] z77))]) rw25 el25 ag36 zo36 sz36 rfl (by decide) (.cons rfl (Attr.len _) .nil) rfl (by intro d hd; simp only [List.mem_cons, List.not_mem_nil, or_false] at hd; rcases hd with rfl <;> exact Attr.agg _) rfl) rfl ?_
                  refine wpO.val rfl (oper_fieldAddr rfl fo28_3 nz25 rfl) rfl ?_
                  refine wpO.store H70 (i := 0) rfl rfl rfl rfl rfl rfl sz25 rfl as25 rfl rfl rfl (fun S78 H79 => ?_)
                  refine wpO.nil ?_
                  obtain ⟨S80, hw81, H82⟩ := H79.weakBox (i := 0) (cs' := [(.d (.str (Tree0.mk z66 [] [] []).Tag)), (.d (.str x71)), (.d (.str (Tree0.mk z66 [] [] []).Text)), (.d (.sl (([(Attr.mk [120] z77)]).map encAttr) false)), (.d .nils)]) rfl (.cons (.refl _) (.cons (.refl _) (.cons (.refl _) (.cons slL' (.cons (.refl _) .nil)))))
                  exact ⟨⟨(Tree0.mk z66 [] [] []).Tag, x71, (Tree0.mk z66 [] [] []).Text, [(Attr.mk [120] z77)]⟩, _, _, S80, .refl _ _, hw81, (WeakE.cons rfl (.refl _) (WeakE.cons rfl (.refl _) (WeakE.cons rfl (.refl _) (WeakE.cons rfl (.refl _) (WeakE.cons rfl (.refl _) (WeakE.cons rfl (.refl _) (WeakE.cons rfl (.refl _) (WeakE.cons rfl (.refl _) (WeakE.cons rfl (.refl _) WeakE.nil))))))))), H82.sel [0, 1, 2, 3, 4] (by decide) rfl, h⟩
                ·
                  replace h := if_f hb74 h
                  refine WpC.skip ?_
                  exact ⟨⟨(Tree0.mk z66 [] [] []).Tag, x71, (Tree0.mk z66 [] [] []).Text, (Tree0.mk z66 [] [] []).Attrs⟩, _, _, S69, .refl _ _, .refl _, (WeakE.cons rfl (.refl _) (WeakE.cons rfl (.refl _) (WeakE.cons rfl (.refl _) (WeakE.cons rfl (.refl _) (WeakE.cons rfl (.refl _) (WeakE.cons rfl (.refl _) (WeakE.cons rfl (.refl _) (WeakE.cons rfl (.refl _) (WeakE.cons rfl (.refl _) WeakE.nil))))))))), H70.sel [0, 1, 2, 3, 4] (by decide) rfl, h⟩
              ·
                refine WpC.seq ?_
                refine WpC.region E.obj rfl ?_
                refine wpO.val rfl (oper_fieldAddr rfl fo24_2 nz22 rfl) rfl ?_
                refine wpO.val rfl (oper_load H68 (i := 2) rfl rfl (part_one ag22 rfl)) rfl ?_
                refine wpO.val rfl (oper_move rfl) rfl ?_
                obtain ⟨z83, hzz83, h⟩ := bind_some h
                refine wpO.ret rfl (oper_callF rfl rfl) (porticokeep_pick_ok E _ _ _ _ hzz83 _ _ (ArgsC.eq (ArgsC.eq .nil))) rfl ?_
                obtain ⟨z84, hzz84, h⟩ := bind_some h
                refine wpO.ret rfl (oper_callF rfl rfl) (porticobook_Within_ok E _ _ _ _ _ hzz84 _ _ (ArgsC.eq (ArgsC.eq (ArgsC.eq .nil)))) rfl ?_
                refine wpO.val rfl (oper_assign rfl) rfl ?_
                refine wpO.nil ?_
                refine WpC.seq ?_
                refine WpC.region E.obj rfl ?_
                refine wpO.val rfl (oper_move rfl) rfl ?_
                refine wpO.val rfl (oper_bin rfl rfl binD_lss) rfl ?_
                refine wpO.nil ?_
                refine WpC.cond rfl (fun hb85 => ?_) (fun hb85 => ?_)
                ·
                  replace h := if_t hb85 h
                  refine WpC.region E.obj rfl ?_
                  refine wpO.val rfl (oper_move rfl) rfl ?_
                  refine wpO.val rfl (oper_bin rfl rfl binD_add) rfl ?_
                  refine wpO.val rfl (oper_conv_int rfl us3 it5) rfl ?_
                  refine wpO.val rfl (oper_buildSlice (vs := [(.d (.int .u8 (IntKind.wrap .u8 (IntKind.wrap .i64 (48 + z84)))))]) (ds := [(.int .u8 (IntKind.wrap .u8 (IntKind.wrap .i64 (48 + z84))))]) rw34 el34 ag5 zo5 sz5 rfl (by decide) (.cons rfl rfl .nil) rfl (by intro d hd; simp only [List.mem_cons, List.not_mem_nil, or_false] at hd; rcases hd with rfl <;> rfl) rfl) rfl ?_
                  refine wpO.val rfl (oper_conv_bytes (l := [(IntKind.wrap .u8 (IntKind.wrap .i64 (48 + z84)))]) rfl st9 bs34) rfl ?_
                  refine wpO.val rfl (oper_fieldAddr rfl fo28_1 nz9 rfl) rfl ?_
                  refine wpO.store H68 (i := 0) rfl rfl rfl rfl rfl rfl sz9 rfl as9 rfl rfl rfl (fun S86 H87 => ?_)
                  refine wpO.nil ?_
                  exact ⟨(([(IntKind.wrap .u8 (IntKind.wrap .i64 (48 + z84)))]).map fun n => UInt8.ofNat n.toNat), _, _, S86, .refl _ _, .refl _, (WeakE.cons rfl (.refl _) (WeakE.cons rfl (.refl _) (WeakE.cons rfl (.refl _) (WeakE.cons rfl (.refl _) (WeakE.cons rfl (.refl _) (WeakE.cons rfl (.refl _) (WeakE.cons rfl (.refl _) (WeakE.cons rfl (.refl _) (WeakE.cons rfl (.refl _) WeakE.nil))))))))), H87.sel [0, 1, 2, 3, 4] (by decide) rfl, h⟩
                ·
                  replace h := if_f hb85 h
                  refine WpC.skip ?_
                  exact ⟨(Tree0.mk z66 [] [] []).Key, _, _, S67, .refl _ _, .refl _, (WeakE.cons rfl (.refl _) (WeakE.cons rfl (.refl _) (WeakE.cons rfl (.refl _) (WeakE.cons rfl (.refl _) (WeakE.cons rfl (.refl _) (WeakE.cons rfl (.refl _) (WeakE.cons rfl (.refl _) (WeakE.cons rfl (.refl _) (WeakE.cons rfl (.refl _) WeakE.nil))))))))), H68.sel [0, 1, 2, 3, 4] (by decide) rfl, h⟩
            ·
              replace h := if_f hb65 h
              refine WpC.skip ?_
              exact ⟨⟨(Tree0.mk [] [] z36 []).Tag, (Tree0.mk [] [] z36 []).Key, (Tree0.mk [] [] z36 []).Text, (Tree0.mk [] [] z36 []).Attrs⟩, _, _, S40, .refl _ _, .refl _, (WeakE.cons rfl (.refl _) (WeakE.cons rfl (.refl _) (WeakE.cons rfl (.refl _) (WeakE.cons rfl (.refl _) (WeakE.cons rfl (.refl _) (WeakE.cons rfl (.refl _) (WeakE.cons rfl (.refl _) (WeakE.cons rfl (.refl _) (WeakE.cons rfl (.refl _) WeakE.nil))))))))), H41.sel [0, 1, 2, 3, 4] (by decide) rfl, h⟩
        ·
          refine WpC.seq ?_
          refine WpC.region E.obj rfl ?_
          refine wpO.val rfl (oper_move rfl) rfl ?_
          refine wpO.val rfl (oper_move rfl) rfl ?_
          obtain ⟨z88, hzz88, h⟩ := bind_some h
          refine wpO.val rfl (oper_idx rfl rfl (idxAddr_grow (enc := encTree0) H19 (i := 2) rfl hzz88 el26 as28 ((Tree0.len _).trans sz28.symm))) rfl ?_
          refine wpO.val rfl (oper_fieldAddrE rfl fo28_0 nz9 rfl) rfl ?_
          refine wpO.val rfl (oper_loadE rfl (by rw [Tree0.cells]; exact partD_one ag9 rfl)) rfl ?_
          refine wpO.val rfl (oper_bin rfl rfl binD_seql) rfl ?_
          refine wpO.nil ?_
          refine WpC.cond rfl (fun hb89 => ?_) (fun hb89 => ?_)
          ·
            replace h := if_t hb89 h
            refine WpC.region E.obj rfl ?_
            refine wpO.val rfl (oper_assign rfl) rfl ?_
            refine wpO.nil ?_
            exact ⟨0, _, _, S18, .refl _ _, .refl _, (WeakE.cons rfl (.refl _) (WeakE.cons rfl (.refl _) (WeakE.cons rfl (.refl _) (WeakE.cons rfl (.refl _) (WeakE.cons rfl (.refl _) (WeakE.cons rfl (.refl _) (WeakE.cons rfl (.refl _) (WeakE.cons rfl (.refl _) WeakE.nil)))))))), H19.sel [0, 1, 2, 3] (by decide) rfl, h⟩
          ·
            replace h := if_f hb89 h
            refine WpC.skip ?_
            exact ⟨z29, _, _, S18, .refl _ _, .refl _, (WeakE.cons rfl (.refl _) (WeakE.cons rfl (.refl _) (WeakE.cons rfl (.refl _) (WeakE.cons rfl (.refl _) (WeakE.cons rfl (.refl _) (WeakE.cons rfl (.refl _) (WeakE.cons rfl (.refl _) (WeakE.cons rfl (.refl _) WeakE.nil)))))))), H19.sel [0, 1, 2, 3] (by decide) rfl, h⟩
      ·
        replace h := if_f hb27 h
        refine WpC.exit ?_
        refine WpC.seq ?_
        refine WpC.region E.obj rfl ?_
        refine wpO.val rfl (oper_move rfl) rfl ?_
        refine wpO.val rfl (oper_move rfl) rfl ?_
        obtain ⟨z90, hzz90, h⟩ := bind_some h
        refine wpO.ret rfl (oper_callF rfl rfl) (porticokeep_grow_ok E _ _ _ _ _ hzz90 _ _ (ArgsC.grow H19 (i := 2) rfl (ArgsC.grow H19 (i := 3) rfl (ArgsC.eq .nil)))) rfl ?_
        refine wpO.store H19 (i := 0) rfl rfl rfl rfl (Tree.cellsA _) rfl sz28 rfl as28 rfl rfl rfl (fun S91 H92 => ?_)
        refine wpO.nil ?_
        have hr := Option.some.inj h
        subst hr
        exact WpC.ret ⟨_, resultsE_cell H92 (i := 0) rfl rfl rfl (part_agg ag28 sz28 rfl), rfl, end1 (ArgsC.less_agg (d := encTree z90) (CellsC.eq rfl (CellsC.eq rfl (CellsC.eq rfl (CellsC.eq rfl (CellsC.eq rfl .nil))))) ((Tree.eq _).trans rfl))⟩
theorem slices_Clone__api_Attr_api_Attr__ok (n : Nat) (a1 : (List Attr)) (r : (List Attr)) (h : slices_Clone__api_Attr_api_Attr_ n a1 = some r) : SpecC R cfg.P 25 [(.sl ((a1).map encAttr) false)] (.d (.sl ((r).map encAttr) false)) := by
  unfold slices_Clone__api_Attr_api_Attr_ at h
  refine SpecC.of_wp E.obj.toObjOk (C := cfg) Tryd.func25 rfl nm25 rfl ?_
  have H0 : Has pureSt pureSt [] := Has.pure
  refine WpC.seq ?_
  refine WpC.region E.obj rfl ?_
  refine wpO.val rfl (oper_assign rfl) rfl ?_
  refine wpO.nil ?_
  refine WpC.seq ?_
  refine WpC.seq ?_
  refine WpC.region E.obj rfl ?_
  refine wpO.val rfl (oper_move rfl) rfl ?_
  refine wpO.eqNil rfl rfl rfl us25s rfl (fun bb hbb => ?_)
  refine wpO.nil ?_
  refine WpC.cond rfl (fun hb => ?_) (fun hb => ?_)
  · have e := map_nil (hbb hb)
    subst e
    have hr := (app_some h).2
    subst hr
    refine WpC.seq ?_
    refine WpC.region E.obj rfl ?_
    refine wpO.val rfl (oper_assign rfl) rfl ?_
    refine wpO.nil ?_
    exact WpC.ret ⟨_, rfl, rfl, end1 (ArgsC.consW rfl (.nils false) .nil)⟩
  · refine WpC.skip ?_
    refine WpC.seq ?_
    refine WpC.region E.obj rfl ?_
    refine wpO.val rfl (oper_buildSlice0 rw25 el25 ag36) rfl ?_
    refine wpO.val rfl (oper_move rfl) rfl ?_
    have H1 := H0.tightG (([] : (List Attr)).map encAttr)
    refine wpO.append (xs := ([] : (List Attr)).map encAttr) (ys := (a1).map encAttr) (zs := (r).map encAttr) H1 rfl rfl rfl (i := 0) rfl rfl rw25 os25 el25 (app_bound (enc := encAttr) h) nb36 rfl (sizes_map (enc := encAttr) (fun z => (Attr.len z).trans sz36.symm) _) (sizes_map (enc := encAttr) (fun z => (Attr.len z).trans sz36.symm) _) zk36 rfl (app_eq h) (fun v2 S2 H2 => ?_)
    refine wpO.val rfl (oper_assign rfl) rfl ?_
    refine wpO.nil ?_
    exact WpC.ret ⟨_, rfl, rfl, end1 (ArgsC.grow H2 (i := 0) rfl .nil)⟩
theorem slices_Clone__api_Tree_api_Tree__okN (n : Nat) (a1 : (List Tree)) (r : (List Tree)) (h : slices_Clone__api_Tree_api_Tree_ n a1 = some r) : SpecN R cfg.P 26 [(.sl ((a1).map encTree) false)] (fun v l => l = [.row 5 v ((r).map encTree)]) := by
  unfold slices_Clone__api_Tree_api_Tree_ at h
  refine SpecN.of_wp (C := cfgR1) Tryd.func26 rfl nm26 rfl (fun S0 wf0 => ?_)
  have H0 : Has S0 S0 [] := Has.start wf0
  refine WpC.seq ?_
  refine WpC.region (objR1 E) rfl ?_
  refine wpO.val rfl (oper_assign rfl) rfl ?_
  refine wpO.nil ?_
  refine WpC.seq ?_
  refine WpC.seq ?_
  refine WpC.region (objR1 E) rfl ?_
  refine wpO.val rfl (oper_move rfl) rfl ?_
  refine wpO.eqNil rfl rfl rfl us26s rfl (fun bb hbb => ?_)
  refine wpO.nil ?_
  refine WpC.cond rfl (fun hb => ?_) (fun hb => ?_)
  · have e := map_nil (hbb hb)
    subst e
    have hr := (app_some h).2
    subst hr
    refine WpC.seq ?_
    refine WpC.region (objR1 E) rfl ?_
    refine wpO.val rfl (oper_assign rfl) rfl ?_
    refine wpO.nil ?_
    exact WpC.ret ⟨_, rfl, rfl, _, _, .refl _, rfl, H0.nilR 5⟩
  · refine WpC.skip ?_
    refine WpC.seq ?_
    refine WpC.region (objR1 E) rfl ?_
    refine wpO.val rfl (oper_buildSlice0R bs26xR1 el26 ag28) rfl ?_
    refine wpO.val rfl (oper_move rfl) rfl ?_
    have H1 := H0.tightR 5
    refine wpO.rowAppend (xs := ([] : (List Tree)).map encTree) (ys := (a1).map encTree) (zs := (r).map encTree) H1 rfl rfl rfl (i := 0) rfl sz28 rfl rw26R1 os26R1 el26 (app_bound (enc := encTree) h) nb28 rfl (sizes_map (enc := encTree) (fun z => (Tree.len z).trans sz28.symm) _) (flat_map (fun x => Tree.flat x) _) rfl zk28R1 rfl (app_eq h) (fun v2 S2 H2 => ?_)
    refine wpO.val rfl (oper_assign rfl) rfl ?_
    refine wpO.nil ?_
    exact WpC.ret ⟨_, rfl, rfl, _, _, .refl _, rfl, H2⟩
set_option maxHeartbeats 4000000 in
theorem shape_Copy_ok : ∀ (n : Nat) (a1 : Tree) (r : Tree), shape_Copy n a1 = some r → SpecC R cfg.P 10 [(encTree a1)] (.d (encTree r))
  | 0, a1, r, h => by simp [shape_Copy] at h
  | n + 1, a1, r, h => by
    have ih := shape_Copy_ok n
    unfold shape_Copy at h
    refine SpecC.of_wp (objR1 E).toObjOk (C := cfgR1) Tryd.func10 rfl nm10 rfl ?_
    have H0 : Has pureSt pureSt [] := Has.pure
    refine WpC.seq ?_
    refine WpC.region (objR1 E) rfl ?_
    refine wpO.box H0 rfl rfl rfl (Tree.cellsA _) rfl (fun b2 S3 H4 => ?_)
    refine wpO.alloc H4 rfl ob28R1 zo28 rfl rfl (fun b5 S6 H7 => ?_)
    refine wpO.nil ?_
    refine WpC.seq ?_
    refine WpC.region (objR1 E) rfl ?_
    refine wpO.val rfl (oper_fieldAddr rfl fo28_3 nz25 rfl) rfl ?_
    refine wpO.val rfl (oper_load H7 (i := 1) rfl rfl (part_one ag25 rfl)) rfl ?_
    obtain ⟨z8, hzz8, h⟩ := bind_some h
    refine wpO.ret rfl (oper_callF rfl rfl) (slices_Clone__api_Attr_api_Attr__ok E _ _ _ hzz8 _ _ (ArgsC.eq .nil)) rfl ?_
    refine wpO.val rfl (oper_fieldAddr rfl fo28_3 nz25 rfl) rfl ?_
    refine wpO.store H7 (i := 1) rfl rfl rfl rfl rfl rfl sz25 rfl as25 rfl rfl rfl (fun S9 H10 => ?_)
    refine wpO.nil ?_
    refine WpC.seq ?_
    refine WpC.region (objR1 E) rfl ?_
    refine wpO.val rfl (oper_fieldAddr rfl fo28_4 nz26 rfl) rfl ?_
    refine wpO.val rfl (oper_load H10 (i := 1) rfl rfl (part_one ag26 rfl)) rfl ?_
    obtain ⟨z11, hzz11, h⟩ := bind_some h
    refine wpO.retN H10 rfl (oper_callF rfl rfl) (slices_Clone__api_Tree_api_Tree__okN E n _ _ hzz11) (ArgsC.eq .nil) rfl ?_
    rintro v12 S13 _ rfl H14
    refine wpO.val rfl (oper_fieldAddr rfl fo28_4 nz26 rfl) rfl ?_
    refine wpO.store H14 (i := 2) rfl rfl rfl rfl (row_plain (H14.at (i := 0) rfl)).2 rfl sz26 (row_plain (H14.at (i := 0) rfl)).1 as26 rfl rfl rfl (fun S17 H18 => ?_)
    refine wpO.nil ?_
    refine WpC.seq ?_
    refine WpC.seq ?_
    refine WpC.region (objR1 E) rfl ?_
    refine wpO.val rfl (oper_fieldAddr rfl fo28_4 nz26 rfl) rfl ?_
    refine wpO.val rfl (oper_load H18 (i := 2) rfl rfl (part_one ag26 rfl)) rfl ?_
    refine wpO.val rfl (oper_lenR H18 (i := 0) rfl rfl es26) rfl ?_
    refine wpO.val rfl (oper_move rfl) rfl ?_
    refine wpO.nil ?_
    refine WpC.block ?_
    refine WpL.start (B := pureSt) (α := (List Tree) × Int) (fun k a => shape_Copy_l29 (shape_Copy n) a1 z8 z11 k a.1 a.2 = some r) (fun a => [(1, (.ptr b2 0 0)), (2, (.ptr b5 0 0)), (14, v12), (15, (.d (.int .i64 ((z11).length : Int)))), (16, (.d (.int .i64 a.2)))]) (fun a => [.row 5 v12 ((a.1).map encTree), .box b5 [(.d (.str [])), (.d (.str [])), (.d (.str [])), (.d .nils), (.d .nils)], .box b2 [(.d (.str a1.Tag)), (.d (.str a1.Key)), (.d (.str a1.Text)), (.d (.sl ((z8).map encAttr) false)), v12]]) ?_ ?_ n ⟨⟨z11, 0⟩, _, _, S17, .refl _ _, .refl _, (WeakE.cons rfl (.refl _) (WeakE.cons rfl (.refl _) (WeakE.cons rfl (.refl _) (WeakE.cons rfl (.refl _) (WeakE.cons rfl (.refl _) WeakE.nil))))), H18.sel [0, 1, 2] (by decide) rfl, h⟩
    · intro a h; simp [shape_Copy_l29] at h
    ·
      intro k29 a S25 H26 h
      obtain ⟨x27, x28⟩ := a
      replace h : shape_Copy_l29 (shape_Copy n) a1 z8 z11 (k29 + 1) x27 x28 = some r := h
      replace H26 : Has pureSt S25 [.row 5 v12 ((x27).map encTree), .box b5 [(.d (.str [])), (.d (.str [])), (.d (.str [])), (.d .nils), (.d .nils)], .box b2 [(.d (.str a1.Tag)), (.d (.str a1.Key)), (.d (.str a1.Text)), (.d (.sl ((z8).map encAttr) false)), v12]] := H26
      unfold shape_Copy_l29 at h
      refine WpC.seq ?_
      refine WpC.region (objR1 E) rfl ?_
      refine wpO.val rfl (oper_bin rfl rfl binD_lss) rfl ?_
      refine wpO.nil ?_
      refine WpC.seq ?_
      refine WpC.cond rfl (fun hb30 => ?_) (fun hb30 => ?_)
      ·
        replace h := if_t hb30 h
        refine WpC.skip ?_
        refine WpC.seq ?_
        refine WpC.block ?_
        refine WpC.seq ?_
        refine WpC.region (objR1 E) rfl ?_
        refine wpO.val rfl (oper_move rfl) rfl ?_
        obtain ⟨z31, hzz31, h⟩ := bind_some h
        refine wpO.rowIdxP (enc := encTree) H26 rfl (i := 0) rfl rfl rfl hzz31 el26 as28 ((Tree.len _).trans sz28.symm) rfl ?_
        refine wpO.rowLoadP H26 rfl (i := 0) rfl hzz31 rfl (Tree.partW ag28 sz28) rfl ?_
        refine wpO.alloc H26 rfl ob28R1 zo28 rfl rfl (fun b32 S33 H34 => ?_)
        refine wpO.val rfl (oper_assign rfl) rfl ?_
        refine wpO.store H34 (i := 0) rfl rfl rfl rfl (Tree.cellsA _) rfl sz28 rfl as28 rfl rfl rfl (fun S35 H36 => ?_)
        refine wpO.nil ?_
        obtain ⟨z37, hzz37, h⟩ := bind_some h
        obtain ⟨z38, hzz38, h⟩ := bind_some h
        refine WpC.drawP (objR1 E) hmix [[(1, none)], [(21, some 0)], [(3, none)], [(4, none)], [(24, some 3)], [(22, some 1), (23, some 2)], [(25, some 4), (26, some 5)]] [(1, none), (2, none), (14, none), (15, none), (16, none)] (by kernel_rfl) [6] (by decide) [some (.ptr b2 0 4), some v12, some (.d (.int .i64 x28)), some (.d (encTree z31)), some (.d (encTree z37)), some (rowPtr v12 (Int.toNat x28) 0), none] ?_
        refine ⟨[0, 1, 2, 3, 4, 5], by kernel_rfl, ?_, _, _, rfl, rfl, .step ?_⟩
        ·
          refine .cons rfl rfl rfl (.step ?_) ?_
          ·
            refine wpO.val rfl (oper_fieldAddr rfl fo28_4 nz26 rfl) rfl ?_
            exact wpO.nil ⟨_, _, rfl, fun _ ht => by cases ht; exact ⟨rfl, .refl _⟩⟩
          refine .cons rfl rfl rfl (.step ?_) ?_
          ·
            refine wpO.val rfl (oper_load H36 (i := 3) rfl rfl (part_one ag26 rfl)) rfl ?_
            exact wpO.nil ⟨_, _, rfl, fun _ ht => by cases ht; exact ⟨rfl, .refl _⟩⟩
          refine .cons rfl rfl rfl (.step ?_) ?_
          ·
            refine wpO.val rfl (oper_move rfl) rfl ?_
            exact wpO.nil ⟨_, _, rfl, fun _ ht => by cases ht; exact ⟨rfl, .refl _⟩⟩
          refine .cons rfl rfl rfl (.step ?_) ?_
          ·
            refine wpO.val rfl (oper_load H36 (i := 0) rfl rfl (part_agg ag28 sz28 rfl)) rfl ?_
            refine wpO.less (Less.agg' (d := encTree z31) (CellsC.eq rfl (CellsC.eq rfl (CellsC.eq rfl (CellsC.eq rfl (CellsC.eq rfl .nil))))) ((Tree.eq _).trans rfl)) ?_
            exact wpO.nil ⟨_, _, rfl, fun _ ht => by cases ht; exact ⟨rfl, .refl _⟩⟩
          refine .cons rfl rfl rfl (.step ?_) ?_
          ·
            refine wpO.ret rfl (oper_callF rfl rfl) (ih _ _ hzz37 _ _ (ArgsC.eq .nil)) rfl ?_
            exact wpO.nil ⟨_, _, rfl, fun _ ht => by cases ht; exact ⟨rfl, .refl _⟩⟩
          refine .cons rfl rfl rfl (.step ?_) ?_
          ·
            refine wpO.rowIdxP (enc := encTree) H36 rfl (i := 1) rfl rfl rfl hzz38 el26 as28 ((Tree.len _).trans sz28.symm) rfl ?_
            exact wpO.nil ⟨_, _, rfl, fun _ ht => by cases ht; exact ⟨rfl, .refl _⟩⟩
          exact .nil
        refine wpO.rowStoreP (enc := encTree) (z' := z37) (cv := [(.str z37.Tag), (.str z37.Key), (.str z37.Text), (.sl ((z37.Attrs).map encAttr) false), (.sl ((z37.Kids).map encTree) false)]) H36 rfl (i := 1) rfl hzz38 rfl rfl (Tree.cellsA _) (.refl _) sz28 rfl as28 (by rw [Tree.len]; rfl) (by rw [Tree.cells, Tree.cells]; rfl) (Tree.flat _) (fun S41 H42 => ?_)
        refine wpO.nil ⟨_, .any, _, rfl, (fun _ ht => by cases ht), [some (.ptr b2 0 4), some v12, some (.d (.int .i64 x28)), some (.d (encTree z31)), some (.d (encTree z37)), some (rowPtr v12 (Int.toNat x28) 0), some .any], (.old (.refl _) (.old (.refl _) (.old (.refl _) (.old (.refl _) (.old (.refl _) (.old (.refl _) (.new .nil))))))), (fun _ ht => by cases ht), ?_⟩
        refine ⟨[], by kernel_rfl, ?_, _, rfl, ?_⟩
        ·
          exact .nil
        refine WpC.region (objR1 E) rfl ?_
        refine wpO.val rfl (oper_bin rfl rfl binD_add) rfl ?_
        refine wpO.val rfl (oper_move rfl) rfl ?_
        refine wpO.nil ?_
        exact ⟨⟨(setI x27 x28 z37), (IntKind.wrap .i64 (x28 + 1))⟩, _, _, S41, .refl _ _, .refl _, (WeakE.cons rfl (.refl _) (WeakE.cons rfl (.refl _) (WeakE.cons rfl (.refl _) (WeakE.cons rfl (.refl _) (WeakE.cons rfl (.refl _) WeakE.nil))))), H42.sel [1, 2, 3] (by decide) rfl, h⟩
      ·
        replace h := if_f hb30 h
        refine WpC.exit ?_
        refine WpC.seq ?_
        refine WpC.region (objR1 E) rfl ?_
        refine wpO.val rfl (oper_load H26 (i := 2) rfl rfl (part_agg ag28 sz28 rfl)) rfl ?_
        refine wpO.store H26 (i := 1) rfl rfl rfl rfl (mkAgg_cells _) rfl sz28 (mkAgg_plain _) as28 rfl rfl rfl (fun S43 H44 => ?_)
        refine wpO.nil ?_
        obtain ⟨SF1, HF1, hgF1⟩ := H44.freeze (objR1 E).toObjOk (i := 0) (l' := [.box b5 [(.d (.str a1.Tag)), (.d (.str a1.Key)), (.d (.str a1.Text)), (.d (.sl ((z8).map encAttr) false)), (.d (.sl ((x27).map encTree) false))], .box b2 [(.d (.str a1.Tag)), (.d (.str a1.Key)), (.d (.str a1.Text)), (.d (.sl ((z8).map encAttr) false)), (.d (.sl ((x27).map encTree) false))]]) rfl (.box (.cons (.same _) (.cons (.same _) (.cons (.same _) (.cons (.same _) (.cons .it .nil))))) (.box (.cons (.same _) (.cons (.same _) (.cons (.same _) (.cons (.same _) (.cons .it .nil))))) .nil))
        refine WpC.ghost (hgF1 _ _ [(1, (.ptr b2 0 0)), (2, (.ptr b5 0 0)), (14, (.d (.sl ((x27).map encTree) false))), (15, (.d (.int .i64 ((z11).length : Int)))), (16, (.d (.int .i64 x28))), (17, (.d (.bool (decide (x28 < ((z11).length : Int))))))] (.cons rfl (.refl _) (.cons rfl (.refl _) (.it rfl (.cons rfl (.refl _) (.cons rfl (.refl _) (.cons rfl (.refl _) .nil))))))) ?_
        have hr := Option.some.inj h
        subst hr
        exact WpC.ret ⟨_, resultsE_cell HF1 (i := 0) rfl rfl rfl (part_agg ag28 sz28 rfl), rfl, end1 (ArgsC.less_agg (d := encTree (Tree.mk a1.Tag a1.Key a1.Text z8 x27)) (CellsC.eq rfl (CellsC.eq rfl (CellsC.eq rfl (CellsC.eq rfl (CellsC.eq rfl .nil))))) ((Tree.eq _).trans rfl))⟩
set_option maxHeartbeats 4000000 in
theorem shape_Count_ok : ∀ (n : Nat) (a1 : Tree) (r : Int), shape_Count n a1 = some r → SpecC R cfg.P 14 [(encTree a1)] (.d (.int .i64 r))
  | 0, a1, r, h => by simp [shape_Count] at h
  | n + 1, a1, r, h => by
    have ih := shape_Count_ok n
    unfold shape_Count at h
    refine SpecC.of_wp E.obj.toObjOk (C := cfg) Tryd.func14 rfl nm14 rfl ?_
    have H0 : Has pureSt pureSt [] := Has.pure
    refine WpC.seq ?_
    refine WpC.region E.obj rfl ?_
    refine wpO.box H0 rfl rfl rfl (Tree.cellsA _) rfl (fun b2 S3 H4 => ?_)
    refine wpO.val rfl (oper_assign rfl) rfl ?_
    refine wpO.nil ?_
    refine WpC.seq ?_
    refine WpC.region E.obj rfl ?_
    refine wpO.val rfl (oper_assign rfl) rfl ?_
    refine wpO.nil ?_
    refine WpC.seq ?_
    refine WpC.seq ?_
    refine WpC.region E.obj rfl ?_
    refine wpO.val rfl (oper_fieldAddr rfl fo28_4 nz26 rfl) rfl ?_
    refine wpO.val rfl (oper_load H4 (i := 0) rfl rfl (part_one ag26 rfl)) rfl ?_
    refine wpO.val rfl (oper_lenL rfl es26) rfl ?_
    refine wpO.val rfl (oper_move rfl) rfl ?_
    refine wpO.nil ?_
    refine WpC.block ?_
    refine WpL.start (B := pureSt) (α := Int × Int) (fun k a => shape_Count_l15 (shape_Count n) a1 k a.1 a.2 = some r) (fun a => [(3, (.d (.int .i64 a.1))), (7, (.d (.sl ((a1.Kids).map encTree) false))), (8, (.d (.int .i64 ((a1.Kids).length : Int)))), (9, (.d (.int .i64 a.2)))]) (fun a => []) ?_ ?_ n ⟨⟨1, 0⟩, _, _, S3, .refl _ _, .refl _, (WeakE.cons rfl (.refl _) (WeakE.cons rfl (.refl _) (WeakE.cons rfl (.refl _) (WeakE.cons rfl (.refl _) WeakE.nil)))), H4.sel [] (by decide) rfl, h⟩
    · intro a h; simp [shape_Count_l15] at h
    ·
      intro k15 a S11 H12 h
      obtain ⟨x13, x14⟩ := a
      replace h : shape_Count_l15 (shape_Count n) a1 (k15 + 1) x13 x14 = some r := h
      replace H12 : Has pureSt S11 [] := H12
      unfold shape_Count_l15 at h
      refine WpC.seq ?_
      refine WpC.region E.obj rfl ?_
      refine wpO.val rfl (oper_bin rfl rfl binD_lss) rfl ?_
      refine wpO.nil ?_
      refine WpC.seq ?_
      refine WpC.cond rfl (fun hb16 => ?_) (fun hb16 => ?_)
      ·
        replace h := if_t hb16 h
        refine WpC.skip ?_
        refine WpC.seq ?_
        refine WpC.block ?_
        refine WpC.seq ?_
        refine WpC.region E.obj rfl ?_
        obtain ⟨z17, hzz17, h⟩ := bind_some h
        refine wpO.val rfl (oper_idx rfl rfl (idxAddr (enc := encTree) hzz17 el26 as28 ((Tree.len _).trans sz28.symm))) rfl ?_
        refine wpO.val rfl (oper_loadE rfl (Tree.partW ag28 sz28)) rfl ?_
        refine wpO.alloc H12 rfl ob28 zo28 rfl rfl (fun b18 S19 H20 => ?_)
        refine wpO.store H20 (i := 0) rfl rfl rfl rfl (Tree.cellsA _) rfl sz28 rfl as28 rfl rfl rfl (fun S21 H22 => ?_)
        refine wpO.nil ?_
        refine WpC.region E.obj rfl ?_
        refine wpO.val rfl (oper_move rfl) rfl ?_
        refine wpO.val rfl (oper_load H22 (i := 0) rfl rfl (part_agg ag28 sz28 rfl)) rfl ?_
        refine wpO.less (Less.agg' (d := encTree z17) (CellsC.eq rfl (CellsC.eq rfl (CellsC.eq rfl (CellsC.eq rfl (CellsC.eq rfl .nil))))) ((Tree.eq _).trans rfl)) ?_
        obtain ⟨z23, hzz23, h⟩ := bind_some h
        refine wpO.ret rfl (oper_callF rfl rfl) (ih _ _ hzz23 _ _ (ArgsC.eq .nil)) rfl ?_
        refine wpO.val rfl (oper_bin rfl rfl binD_add) rfl ?_
        refine wpO.val rfl (oper_assign rfl) rfl ?_
        refine wpO.nil ?_
        refine WpC.region E.obj rfl ?_
        refine wpO.val rfl (oper_bin rfl rfl binD_add) rfl ?_
        refine wpO.val rfl (oper_move rfl) rfl ?_
        refine wpO.nil ?_
        exact ⟨⟨(IntKind.wrap .i64 (x13 + z23)), (IntKind.wrap .i64 (x14 + 1))⟩, _, _, S21, .refl _ _, .refl _, (WeakE.cons rfl (.refl _) (WeakE.cons rfl (.refl _) (WeakE.cons rfl (.refl _) (WeakE.cons rfl (.refl _) WeakE.nil)))), H22.sel [] (by decide) rfl, h⟩
      ·
        replace h := if_f hb16 h
        refine WpC.exit ?_
        refine WpC.seq ?_
        refine WpC.region E.obj rfl ?_
        refine wpO.val rfl (oper_move rfl) rfl ?_
        refine wpO.val rfl (oper_assign rfl) rfl ?_
        refine wpO.nil ?_
        have hr := Option.some.inj h
        subst hr
        exact WpC.ret ⟨_, rfl, rfl, end1 (ArgsC.eq .nil)⟩
set_option maxHeartbeats 4000000 in
theorem shape_Deep_ok : ∀ (n : Nat) (a1 : Tree) (r : Int), shape_Deep n a1 = some r → SpecC R cfg.P 15 [(encTree a1)] (.d (.int .i64 r))
  | 0, a1, r, h => by simp [shape_Deep] at h
  | n + 1, a1, r, h => by
    have ih := shape_Deep_ok n
    unfold shape_Deep at h
    refine SpecC.of_wp E.obj.toObjOk (C := cfg) Tryd.func15 rfl nm15 rfl ?_
    have H0 : Has pureSt pureSt [] := Has.pure
    refine WpC.seq ?_
    refine WpC.region E.obj rfl ?_
    refine wpO.box H0 rfl rfl rfl (Tree.cellsA _) rfl (fun b2 S3 H4 => ?_)
    refine wpO.val rfl (oper_assign rfl) rfl ?_
    refine wpO.nil ?_
    refine WpC.seq ?_
    refine WpC.region E.obj rfl ?_
    refine wpO.val rfl (oper_assign rfl) rfl ?_
    refine wpO.nil ?_
    refine WpC.seq ?_
    refine WpC.seq ?_
    refine WpC.region E.obj rfl ?_
    refine wpO.val rfl (oper_fieldAddr rfl fo28_4 nz26 rfl) rfl ?_
    refine wpO.val rfl (oper_load H4 (i := 0) rfl rfl (part_one ag26 rfl)) rfl ?_
    refine wpO.val rfl (oper_lenL rfl es26) rfl ?_
    refine wpO.val rfl (oper_move rfl) rfl ?_
    refine wpO.nil ?_
    refine WpC.block ?_
    refine WpL.start (B := pureSt) (α := Int × Int) (fun k a => shape_Deep_l15 (shape_Deep n) a1 k a.1 a.2 = some r) (fun a => [(3, (.d (.int .i64 a.1))), (7, (.d (.sl ((a1.Kids).map encTree) false))), (8, (.d (.int .i64 ((a1.Kids).length : Int)))), (9, (.d (.int .i64 a.2)))]) (fun a => []) ?_ ?_ n ⟨⟨0, 0⟩, _, _, S3, .refl _ _, .refl _, (WeakE.cons rfl (.refl _) (WeakE.cons rfl (.refl _) (WeakE.cons rfl (.refl _) (WeakE.cons rfl (.refl _) WeakE.nil)))), H4.sel [] (by decide) rfl, h⟩
    · intro a h; simp [shape_Deep_l15] at h
    ·
      intro k15 a S11 H12 h
      obtain ⟨x13, x14⟩ := a
      replace h : shape_Deep_l15 (shape_Deep n) a1 (k15 + 1) x13 x14 = some r := h
      replace H12 : Has pureSt S11 [] := H12
      unfold shape_Deep_l15 at h
      refine WpC.seq ?_
      refine WpC.region E.obj rfl ?_
      refine wpO.val rfl (oper_bin rfl rfl binD_lss) rfl ?_
      refine wpO.nil ?_
      refine WpC.seq ?_
      refine WpC.cond rfl (fun hb16 => ?_) (fun hb16 => ?_)
      ·
        replace h := if_t hb16 h
        refine WpC.skip ?_
        refine WpC.seq ?_
        refine WpC.block ?_
        refine WpC.seq ?_
        refine WpC.region E.obj rfl ?_
        obtain ⟨z17, hzz17, h⟩ := bind_some h
        refine wpO.val rfl (oper_idx rfl rfl (idxAddr (enc := encTree) hzz17 el26 as28 ((Tree.len _).trans sz28.symm))) rfl ?_
        refine wpO.val rfl (oper_loadE rfl (Tree.partW ag28 sz28)) rfl ?_
        refine wpO.alloc H12 rfl ob28 zo28 rfl rfl (fun b18 S19 H20 => ?_)
        refine wpO.store H20 (i := 0) rfl rfl rfl rfl (Tree.cellsA _) rfl sz28 rfl as28 rfl rfl rfl (fun S21 H22 => ?_)
        refine wpO.nil ?_
        refine WpC.region E.obj rfl ?_
        refine wpO.val rfl (oper_move rfl) rfl ?_
        refine wpO.val rfl (oper_load H22 (i := 0) rfl rfl (part_agg ag28 sz28 rfl)) rfl ?_
        refine wpO.less (Less.agg' (d := encTree z17) (CellsC.eq rfl (CellsC.eq rfl (CellsC.eq rfl (CellsC.eq rfl (CellsC.eq rfl .nil))))) ((Tree.eq _).trans rfl)) ?_
        obtain ⟨z23, hzz23, h⟩ := bind_some h
        refine wpO.ret rfl (oper_callF rfl rfl) (ih _ _ hzz23 _ _ (ArgsC.eq .nil)) rfl ?_
        refine wpO.val rfl (oper_max rfl rfl) rfl ?_
        refine wpO.val rfl (oper_assign rfl) rfl ?_
        refine wpO.nil ?_
        refine WpC.region E.obj rfl ?_
        refine wpO.val rfl (oper_bin rfl rfl binD_add) rfl ?_
        refine wpO.val rfl (oper_move rfl) rfl ?_
        refine wpO.nil ?_
        exact ⟨⟨(maxI x13 z23), (IntKind.wrap .i64 (x14 + 1))⟩, _, _, S21, .refl _ _, .refl _, (WeakE.cons rfl (.refl _) (WeakE.cons rfl (.refl _) (WeakE.cons rfl (.refl _) (WeakE.cons rfl (.refl _) WeakE.nil)))), H22.sel [] (by decide) rfl, h⟩
      ·
        replace h := if_f hb16 h
        refine WpC.exit ?_
        refine WpC.seq ?_
        refine WpC.region E.obj rfl ?_
        refine wpO.val rfl (oper_move rfl) rfl ?_
        refine wpO.val rfl (oper_bin rfl rfl binD_add) rfl ?_
        refine wpO.val rfl (oper_assign rfl) rfl ?_
        refine wpO.nil ?_
        have hr := Option.some.inj h
        subst hr
        exact WpC.ret ⟨_, rfl, rfl, end1 (ArgsC.eq .nil)⟩
set_option maxHeartbeats 4000000 in
theorem shape_element_1_ok (n : Nat) (a1 : Attr) (a2 : Attr) (S0 : St) (b3 : Nat) (hb4 : S0.H.get b3 = some (.cells 0 [(.d (.str a2.Name)), (.d (.str a2.Value))])) (r : Bool) (h : shape_element_1 n a1 a2 = some r) : SpecF R cfg.P 36 [.d (encAttr a1), .ptr b3 0 0] S0 (fun o => o = (none, .d (.bool r), S0)) := by
  unfold shape_element_1 at h
  refine SpecS.of_wp (C := cfg) Tryd.func36 rfl nm36 rfl (fun wf0 => ?_)
  have H0 : Has S0 S0 [] := Has.start wf0
  refine WpC.seq ?_
  refine WpC.region E.obj rfl ?_
  refine wpO.box H0 rfl rfl rfl (Attr.cellsA _) rfl (fun b5 S6 H7 => ?_)
  refine wpO.val rfl (oper_assign rfl) rfl ?_
  refine wpO.nil ?_
  refine WpC.seq ?_
  refine WpC.region E.obj rfl ?_
  refine wpO.val rfl (oper_fieldAddr rfl fo36_0 nz9 rfl) rfl ?_
  refine wpO.val rfl (oper_load H7 (i := 0) rfl rfl (part_one ag9 rfl)) rfl ?_
  refine wpO.val rfl (oper_fieldAddr rfl fo36_0 nz9 rfl) rfl ?_
  refine wpO.val rfl (oper_loadB H7 hb4 rfl (part_one ag9 rfl)) rfl ?_
  refine wpO.val rfl (oper_bin rfl rfl binD_seql) rfl ?_
  refine wpO.val rfl (oper_assign rfl) rfl ?_
  refine wpO.nil ?_
  have hr := Option.some.inj h
  subst hr
  exact WpC.ret ⟨_, rfl, rfl, H7.keeps, end1 (ArgsC.eq .nil)⟩
set_option maxHeartbeats 4000000 in
theorem slices_IndexFunc__api_Attr_api_Attr__ok (n : Nat) (S0 : St) (a1 : (List Attr)) (fg3 : Nat) (fc4 : List AV) (p2 : Attr → Option Bool) (hpp2 : ∀ S', Keeps S0 S' → S'.Wf → ∀ (y0 : Attr) (r : Bool), p2 y0 = some r → SpecF R cfg.P fg3 ([.d (encAttr y0)] ++ fc4) S' (fun o => o = (none, .d (.bool r), S'))) (r : Int) (h : slices_IndexFunc__api_Attr_api_Attr_ n a1 p2 = some r) : SpecF R cfg.P 46 [.d (.sl ((a1).map encAttr) false), .fn fg3 fc4] S0 (fun o => o = (none, .d (.int .i64 r), S0)) := by
  unfold slices_IndexFunc__api_Attr_api_Attr_ at h
  refine SpecS.of_wp (C := cfg) Tryd.func46 rfl nm46 rfl (fun wf0 => ?_)
  have H0 : Has S0 S0 [] := Has.start wf0
  refine WpC.seq ?_
  refine WpC.region E.obj rfl ?_
  refine wpO.val rfl (oper_assign rfl) rfl ?_
  refine wpO.nil ?_
  refine WpC.seq ?_
  refine WpC.seq ?_
  refine WpC.region E.obj rfl ?_
  refine wpO.val rfl (oper_move rfl) rfl ?_
  refine wpO.val rfl (oper_lenL rfl es25) rfl ?_
  refine wpO.val rfl (oper_move rfl) rfl ?_
  refine wpO.nil ?_
  refine WpC.block ?_
  refine WpL.start (B := S0) (α := Int) (fun k a => slices_IndexFunc__api_Attr_api_Attr__l13 a1 p2 k a = some r) (fun a => [(0, (.d (.sl ((a1).map encAttr) false))), (1, (.fn fg3 fc4)), (7, (.d (.int .i64 ((a1).length : Int)))), (8, (.d (.int .i64 a)))]) (fun a => []) ?_ ?_ n ⟨0, _, _, S0, .refl _ _, .refl _, (WeakE.cons rfl (.refl _) (WeakE.cons rfl (.refl _) (WeakE.cons rfl (.refl _) (WeakE.cons rfl (.refl _) WeakE.nil)))), H0.sel [] (by decide) rfl, h⟩
  · intro a h; simp [slices_IndexFunc__api_Attr_api_Attr__l13] at h
  ·
    intro k13 x12 S10 H11 h
    replace h : slices_IndexFunc__api_Attr_api_Attr__l13 a1 p2 (k13 + 1) x12 = some r := h
    replace H11 : Has S0 S10 [] := H11
    unfold slices_IndexFunc__api_Attr_api_Attr__l13 at h
    refine WpC.seq ?_
    refine WpC.region E.obj rfl ?_
    refine wpO.val rfl (oper_bin rfl rfl binD_lss) rfl ?_
    refine wpO.nil ?_
    refine WpC.seq ?_
    refine WpC.cond rfl (fun hb14 => ?_) (fun hb14 => ?_)
    ·
      replace h := if_t hb14 h
      refine WpC.skip ?_
      refine WpC.seq ?_
      refine WpC.block ?_
      refine WpC.seq ?_
      refine WpC.region E.obj rfl ?_
      refine wpO.val rfl (oper_move rfl) rfl ?_
      refine wpO.val rfl (oper_assign rfl) rfl ?_
      refine wpO.nil ?_
      refine WpC.seq ?_
      refine WpC.region E.obj rfl ?_
      refine wpO.val rfl (oper_move rfl) rfl ?_
      refine wpO.val rfl (oper_move rfl) rfl ?_
      refine wpO.val rfl (oper_move rfl) rfl ?_
      obtain ⟨z15, hzz15, h⟩ := bind_some h
      refine wpO.val rfl (oper_idx rfl rfl (idxAddr (enc := encAttr) hzz15 el25 as36 ((Attr.len _).trans sz36.symm))) rfl ?_
      refine wpO.val rfl (oper_loadE rfl (Attr.partW ag36 sz36)) rfl ?_
      obtain ⟨z16, hzz16, h⟩ := bind_some h
      refine wpO.ret rfl (oper_callV rfl rfl) (hpp2 _ H11.keeps H11.wf _ _ hzz16) rfl ?_
      refine wpO.nil ?_
      refine WpC.cond rfl (fun hb17 => ?_) (fun hb17 => ?_)
      ·
        replace h := if_t hb17 h
        refine WpC.seq ?_
        refine WpC.region E.obj rfl ?_
        refine wpO.val rfl (oper_move rfl) rfl ?_
        refine wpO.val rfl (oper_assign rfl) rfl ?_
        refine wpO.nil ?_
        have hr := Option.some.inj h
        subst hr
        exact WpC.ret ⟨_, rfl, rfl, H11.keeps, end1 (ArgsC.eq .nil)⟩
      ·
        replace h := if_f hb17 h
        refine WpC.skip ?_
        refine WpC.region E.obj rfl ?_
        refine wpO.val rfl (oper_bin rfl rfl binD_add) rfl ?_
        refine wpO.val rfl (oper_move rfl) rfl ?_
        refine wpO.nil ?_
        exact ⟨(IntKind.wrap .i64 (x12 + 1)), _, _, S10, .refl _ _, .refl _, (WeakE.cons rfl (.refl _) (WeakE.cons rfl (.refl _) (WeakE.cons rfl (.refl _) (WeakE.cons rfl (.refl _) WeakE.nil)))), H11.sel [] (by decide) rfl, h⟩
    ·
      replace h := if_f hb14 h
      refine WpC.exit ?_
      refine WpC.seq ?_
      refine WpC.region E.obj rfl ?_
      refine wpO.val rfl (oper_assign rfl) rfl ?_
      refine wpO.nil ?_
      have hr := Option.some.inj h
      subst hr
      exact WpC.ret ⟨_, rfl, rfl, H11.keeps, end1 (ArgsC.eq .nil)⟩
set_option maxHeartbeats 4000000 in
theorem slices_ContainsFunc__api_Attr_api_Attr__ok (n : Nat) (S0 : St) (a1 : (List Attr)) (fg3 : Nat) (fc4 : List AV) (p2 : Attr → Option Bool) (hpp2 : ∀ S', Keeps S0 S' → S'.Wf → ∀ (y0 : Attr) (r : Bool), p2 y0 = some r → SpecF R cfg.P fg3 ([.d (encAttr y0)] ++ fc4) S' (fun o => o = (none, .d (.bool r), S'))) (r : Bool) (h : slices_ContainsFunc__api_Attr_api_Attr_ n a1 p2 = some r) : SpecF R cfg.P 37 [.d (.sl ((a1).map encAttr) false), .fn fg3 fc4] S0 (fun o => o = (none, .d (.bool r), S0)) := by
  unfold slices_ContainsFunc__api_Attr_api_Attr_ at h
  refine SpecS.of_wp (C := cfg) Tryd.func37 rfl nm37 rfl (fun wf0 => ?_)
  have H0 : Has S0 S0 [] := Has.start wf0
  refine WpC.seq ?_
  refine WpC.region E.obj rfl ?_
  refine wpO.val rfl (oper_assign rfl) rfl ?_
  refine wpO.nil ?_
  refine WpC.seq ?_
  refine WpC.region E.obj rfl ?_
  refine wpO.val rfl (oper_move rfl) rfl ?_
  refine wpO.val rfl (oper_move rfl) rfl ?_
  obtain ⟨z6, hzz6, h⟩ := bind_some h
  refine wpO.ret rfl (oper_callF rfl rfl) (SpecF.argsL (slices_IndexFunc__api_Attr_api_Attr__ok E n S0 _ _ _ p2 (fun S' hk hw y5 r hr => hpp2 S' (H0.keeps.trans hk) hw y5 r hr) _ hzz6) (.cons (.refl _) (.cons (.refl _) .nil))) rfl ?_
  refine wpO.val rfl (oper_bin rfl rfl binD_geq) rfl ?_
  refine wpO.val rfl (oper_assign rfl) rfl ?_
  refine wpO.nil ?_
  have hr := Option.some.inj h
  subst hr
  exact WpC.ret ⟨_, rfl, rfl, H0.keeps, end1 (ArgsC.eq .nil)⟩
set_option maxHeartbeats 4000000 in
theorem shape_element_ok (n : Nat) (a1 : Tree) (r : Bool) (h : shape_element n a1 = some r) : SpecC R cfg.P 33 [(encTree a1)] (.d (.bool r)) := by
  unfold shape_element at h
  refine SpecC.of_wp E.obj.toObjOk (C := cfg) Tryd.func33 rfl nm33 rfl ?_
  have H0 : Has pureSt pureSt [] := Has.pure
  refine WpC.seq ?_
  refine WpC.region E.obj rfl ?_
  refine wpO.box H0 rfl rfl rfl (Tree.cellsA _) rfl (fun b2 S3 H4 => ?_)
  refine wpO.val rfl (oper_assign rfl) rfl ?_
  refine wpO.nil ?_
  refine WpC.seq ?_
  refine WpC.seq ?_
  refine WpC.region E.obj rfl ?_
  refine wpO.val rfl (oper_fieldAddr rfl fo28_0 nz9 rfl) rfl ?_
  refine wpO.val rfl (oper_load H4 (i := 0) rfl rfl (part_one ag9 rfl)) rfl ?_
  refine wpO.val rfl (oper_len rfl (lenTy_str st9) rfl) rfl ?_
  refine wpO.val rfl (oper_bin rfl rfl binD_gtr) rfl ?_
  refine wpO.val rfl (oper_move rfl) rfl ?_
  obtain ⟨z6, hzz6, h⟩ := bind_some h
  refine wpO.groupV 5 15 (.d (.bool z6)) ?_ ?_
  ·
    rcases Bool.eq_false_or_eq_true ((decide (16 < ((a1.Tag).length : Int)))) with hB5 | hB5
    ·
      refine wpO.bool hB5 ?_
      refine wpO.no rfl rfl ?_
      refine wpO.no rfl rfl ?_
      refine wpO.no rfl rfl ?_
      refine wpO.no rfl rfl ?_
      refine wpO.val rfl (oper_pick (b := true) rfl rfl) rfl ?_
      replace hzz6 := if_t hB5 hzz6
      cases hzz6
      exact wpO.nil ⟨_, rfl, (WeakE.put (WeakE.push rfl (WeakE.push rfl (WeakE.push rfl (WeakE.push rfl (WeakE.put (.refl _) (Less.eq (by rw [hB5]))))))) (.refl _))⟩
    ·
      refine wpO.bool hB5 ?_
      replace hzz6 := if_f hB5 hzz6
      refine wpO.val rfl (oper_fieldAddr rfl fo28_0 nz9 rfl) rfl ?_
      refine wpO.val rfl (oper_load H4 (i := 0) rfl rfl (part_one ag9 rfl)) rfl ?_
      obtain ⟨z7, hzz7, hzz6⟩ := bind_some hzz6
      refine wpO.ret rfl (oper_callF rfl rfl) (E.strings_Trim_ok _ _ _ _ hzz7 _ _ (ArgsC.eq (ArgsC.eq .nil))) rfl ?_
      refine wpO.val rfl (oper_bin rfl rfl binD_sneq) rfl ?_
      refine wpO.val rfl (oper_pick (b := false) rfl rfl) rfl ?_
      cases hzz6
      exact wpO.nil ⟨_, rfl, (WeakE.put (WeakE.push rfl (WeakE.push rfl (WeakE.push rfl (WeakE.push rfl (WeakE.put (.refl _) (Less.eq (by rw [hB5]))))))) (.refl _))⟩
  ·
    refine wpO.val rfl (oper_move rfl) rfl ?_
    refine wpO.groupV 4 20 (.d (.bool (z6 || (!(a1.Text == []))))) ?_ ?_
    ·
      rcases Bool.eq_false_or_eq_true (z6) with hB8 | hB8
      ·
        refine wpO.bool hB8 ?_
        refine wpO.no rfl rfl ?_
        refine wpO.no rfl rfl ?_
        refine wpO.no rfl rfl ?_
        refine wpO.val rfl (oper_pick (b := true) rfl rfl) rfl ?_
        exact wpO.nil ⟨_, rfl, (WeakE.put (WeakE.push rfl (WeakE.push rfl (WeakE.push rfl (WeakE.put (.refl _) (Less.eq (by rw [hB8])))))) (Less.eq (by rw [hB8]; rw [Bool.true_or])))⟩
      ·
        refine wpO.bool hB8 ?_
        refine wpO.val rfl (oper_fieldAddr rfl fo28_2 nz9 rfl) rfl ?_
        refine wpO.val rfl (oper_load H4 (i := 0) rfl rfl (part_one ag9 rfl)) rfl ?_
        refine wpO.val rfl (oper_bin rfl rfl binD_sneq) rfl ?_
        refine wpO.val rfl (oper_pick (b := false) rfl rfl) rfl ?_
        exact wpO.nil ⟨_, rfl, (WeakE.put (WeakE.push rfl (WeakE.push rfl (WeakE.push rfl (WeakE.put (.refl _) (Less.eq (by rw [hB8])))))) (Less.eq (by rw [hB8]; rw [Bool.false_or])))⟩
    ·
      refine wpO.val rfl (oper_move rfl) rfl ?_
      refine wpO.groupV 5 26 (.d (.bool ((z6 || (!(a1.Text == []))) || (decide (24 < ((a1.Kids).length : Int)))))) ?_ ?_
      ·
        rcases Bool.eq_false_or_eq_true ((z6 || (!(a1.Text == [])))) with hB9 | hB9
        ·
          refine wpO.bool hB9 ?_
          refine wpO.no rfl rfl ?_
          refine wpO.no rfl rfl ?_
          refine wpO.no rfl rfl ?_
          refine wpO.no rfl rfl ?_
          refine wpO.val rfl (oper_pick (b := true) rfl rfl) rfl ?_
          exact wpO.nil ⟨_, rfl, (WeakE.put (WeakE.push rfl (WeakE.push rfl (WeakE.push rfl (WeakE.push rfl (WeakE.put (.refl _) (Less.eq (by rw [hB9]))))))) (Less.eq (by rw [hB9]; rw [Bool.true_or])))⟩
        ·
          refine wpO.bool hB9 ?_
          refine wpO.val rfl (oper_fieldAddr rfl fo28_4 nz26 rfl) rfl ?_
          refine wpO.val rfl (oper_load H4 (i := 0) rfl rfl (part_one ag26 rfl)) rfl ?_
          refine wpO.val rfl (oper_lenL rfl es26) rfl ?_
          refine wpO.val rfl (oper_bin rfl rfl binD_gtr) rfl ?_
          refine wpO.val rfl (oper_pick (b := false) rfl rfl) rfl ?_
          exact wpO.nil ⟨_, rfl, (WeakE.put (WeakE.push rfl (WeakE.push rfl (WeakE.push rfl (WeakE.push rfl (WeakE.put (.refl _) (Less.eq (by rw [hB9]))))))) (Less.eq (by rw [hB9]; rw [Bool.false_or])))⟩
      ·
        refine wpO.val rfl (oper_move rfl) rfl ?_
        refine wpO.groupV 5 32 (.d (.bool (((z6 || (!(a1.Text == []))) || (decide (24 < ((a1.Kids).length : Int)))) || (decide (64 < ((a1.Key).length : Int)))))) ?_ ?_
        ·
          rcases Bool.eq_false_or_eq_true (((z6 || (!(a1.Text == []))) || (decide (24 < ((a1.Kids).length : Int))))) with hB10 | hB10
          ·
            refine wpO.bool hB10 ?_
            refine wpO.no rfl rfl ?_
            refine wpO.no rfl rfl ?_
            refine wpO.no rfl rfl ?_
            refine wpO.no rfl rfl ?_
            refine wpO.val rfl (oper_pick (b := true) rfl rfl) rfl ?_
            exact wpO.nil ⟨_, rfl, (WeakE.put (WeakE.push rfl (WeakE.push rfl (WeakE.push rfl (WeakE.push rfl (WeakE.put (.refl _) (Less.eq (by rw [hB10]))))))) (Less.eq (by rw [hB10]; rw [Bool.true_or])))⟩
          ·
            refine wpO.bool hB10 ?_
            refine wpO.val rfl (oper_fieldAddr rfl fo28_1 nz9 rfl) rfl ?_
            refine wpO.val rfl (oper_load H4 (i := 0) rfl rfl (part_one ag9 rfl)) rfl ?_
            refine wpO.val rfl (oper_len rfl (lenTy_str st9) rfl) rfl ?_
            refine wpO.val rfl (oper_bin rfl rfl binD_gtr) rfl ?_
            refine wpO.val rfl (oper_pick (b := false) rfl rfl) rfl ?_
            exact wpO.nil ⟨_, rfl, (WeakE.put (WeakE.push rfl (WeakE.push rfl (WeakE.push rfl (WeakE.push rfl (WeakE.put (.refl _) (Less.eq (by rw [hB10]))))))) (Less.eq (by rw [hB10]; rw [Bool.false_or])))⟩
        ·
          refine wpO.nil ?_
          refine WpC.cond rfl (fun hb11 => ?_) (fun hb11 => ?_)
          ·
            replace h := if_t hb11 h
            refine WpC.seq ?_
            refine WpC.region E.obj rfl ?_
            refine wpO.val rfl (oper_assign rfl) rfl ?_
            refine wpO.nil ?_
            have hr := Option.some.inj h
            subst hr
            exact WpC.ret ⟨_, rfl, rfl, end1 (ArgsC.eq .nil)⟩
          ·
            replace h := if_f hb11 h
            refine WpC.skip ?_
            refine WpC.seq ?_
            refine WpC.seq ?_
            refine WpC.region E.obj rfl ?_
            refine wpO.val rfl (oper_fieldAddr rfl fo28_3 nz25 rfl) rfl ?_
            refine wpO.val rfl (oper_load H4 (i := 0) rfl rfl (part_one ag25 rfl)) rfl ?_
            refine wpO.val rfl (oper_lenL rfl es25) rfl ?_
            refine wpO.val rfl (oper_move rfl) rfl ?_
            refine wpO.nil ?_
            refine WpC.block ?_
            refine WpL.start (B := pureSt) (α := Int) (fun k a => shape_element_l20 n a1 k a = some r) (fun a => [(1, (.ptr b2 0 0)), (34, (.d (.sl ((a1.Attrs).map encAttr) false))), (35, (.d (.int .i64 ((a1.Attrs).length : Int)))), (36, (.d (.int .i64 a)))]) (fun a => [.box b2 [(.d (.str a1.Tag)), (.d (.str a1.Key)), (.d (.str a1.Text)), (.d (.sl ((a1.Attrs).map encAttr) false)), (.d (.sl ((a1.Kids).map encTree) false))]]) ?_ ?_ n ⟨0, _, _, S3, .refl _ _, .refl _, (WeakE.cons rfl (.refl _) (WeakE.cons rfl (.refl _) (WeakE.cons rfl (.refl _) (WeakE.cons rfl (.refl _) WeakE.nil)))), H4.sel [0] (by decide) rfl, h⟩
            · intro a h; simp [shape_element_l20] at h
            ·
              intro k20 x19 S17 H18 h
              replace h : shape_element_l20 n a1 (k20 + 1) x19 = some r := h
              replace H18 : Has pureSt S17 [.box b2 [(.d (.str a1.Tag)), (.d (.str a1.Key)), (.d (.str a1.Text)), (.d (.sl ((a1.Attrs).map encAttr) false)), (.d (.sl ((a1.Kids).map encTree) false))]] := H18
              unfold shape_element_l20 at h
              refine WpC.seq ?_
              refine WpC.region E.obj rfl ?_
              refine wpO.val rfl (oper_bin rfl rfl binD_lss) rfl ?_
              refine wpO.nil ?_
              refine WpC.seq ?_
              refine WpC.cond rfl (fun hb21 => ?_) (fun hb21 => ?_)
              ·
                replace h := if_t hb21 h
                refine WpC.skip ?_
                refine WpC.seq ?_
                refine WpC.block ?_
                refine WpC.seq ?_
                refine WpC.region E.obj rfl ?_
                refine wpO.val rfl (oper_move rfl) rfl ?_
                obtain ⟨z22, hzz22, h⟩ := bind_some h
                refine wpO.val rfl (oper_idx rfl rfl (idxAddr (enc := encAttr) hzz22 el25 as36 ((Attr.len _).trans sz36.symm))) rfl ?_
                refine wpO.val rfl (oper_loadE rfl (Attr.partW ag36 sz36)) rfl ?_
                refine wpO.alloc H18 rfl ob36 zo36 rfl rfl (fun b23 S24 H25 => ?_)
                refine wpO.val rfl (oper_assign rfl) rfl ?_
                refine wpO.store H25 (i := 0) rfl rfl rfl rfl (Attr.cellsA _) rfl sz36 rfl as36 rfl rfl rfl (fun S26 H27 => ?_)
                refine wpO.nil ?_
                refine WpC.seq ?_
                refine WpC.region E.obj rfl ?_
                refine wpO.val rfl (oper_makeFunc rfl) rfl ?_
                refine wpO.val rfl (oper_assign rfl) rfl ?_
                refine wpO.nil ?_
                refine WpC.seq ?_
                refine WpC.region E.obj rfl ?_
                refine wpO.val rfl (oper_fieldAddr rfl fo36_0 nz9 rfl) rfl ?_
                refine wpO.val rfl (oper_load H27 (i := 0) rfl rfl (part_one ag9 rfl)) rfl ?_
                refine wpO.val rfl (oper_bin rfl rfl binD_seql) rfl ?_
                refine wpO.val rfl (oper_move rfl) rfl ?_
                refine wpO.groupV 5 50 (.d (.bool ((z22.Name == []) || (decide (64 < ((z22.Name).length : Int)))))) ?_ ?_
                ·
                  rcases Bool.eq_false_or_eq_true ((z22.Name == [])) with hB28 | hB28
                  ·
                    refine wpO.bool hB28 ?_
                    refine wpO.no rfl rfl ?_
                    refine wpO.no rfl rfl ?_
                    refine wpO.no rfl rfl ?_
                    refine wpO.no rfl rfl ?_
                    refine wpO.val rfl (oper_pick (b := true) rfl rfl) rfl ?_
                    exact wpO.nil ⟨_, rfl, (WeakE.put (WeakE.push rfl (WeakE.push rfl (WeakE.push rfl (WeakE.push rfl (WeakE.put (.refl _) (Less.eq (by rw [hB28]))))))) (Less.eq (by rw [hB28]; rw [Bool.true_or])))⟩
                  ·
                    refine wpO.bool hB28 ?_
                    refine wpO.val rfl (oper_fieldAddr rfl fo36_0 nz9 rfl) rfl ?_
                    refine wpO.val rfl (oper_load H27 (i := 0) rfl rfl (part_one ag9 rfl)) rfl ?_
                    refine wpO.val rfl (oper_len rfl (lenTy_str st9) rfl) rfl ?_
                    refine wpO.val rfl (oper_bin rfl rfl binD_gtr) rfl ?_
                    refine wpO.val rfl (oper_pick (b := false) rfl rfl) rfl ?_
                    exact wpO.nil ⟨_, rfl, (WeakE.put (WeakE.push rfl (WeakE.push rfl (WeakE.push rfl (WeakE.push rfl (WeakE.put (.refl _) (Less.eq (by rw [hB28]))))))) (Less.eq (by rw [hB28]; rw [Bool.false_or])))⟩
                ·
                  refine wpO.val rfl (oper_move rfl) rfl ?_
                  refine wpO.groupV 5 56 (.d (.bool (((z22.Name == []) || (decide (64 < ((z22.Name).length : Int)))) || (decide (64 < ((z22.Value).length : Int)))))) ?_ ?_
                  ·
                    rcases Bool.eq_false_or_eq_true (((z22.Name == []) || (decide (64 < ((z22.Name).length : Int))))) with hB29 | hB29
                    ·
                      refine wpO.bool hB29 ?_
                      refine wpO.no rfl rfl ?_
                      refine wpO.no rfl rfl ?_
                      refine wpO.no rfl rfl ?_
                      refine wpO.no rfl rfl ?_
                      refine wpO.val rfl (oper_pick (b := true) rfl rfl) rfl ?_
                      exact wpO.nil ⟨_, rfl, (WeakE.put (WeakE.push rfl (WeakE.push rfl (WeakE.push rfl (WeakE.push rfl (WeakE.put (.refl _) (Less.eq (by rw [hB29]))))))) (Less.eq (by rw [hB29]; rw [Bool.true_or])))⟩
                    ·
                      refine wpO.bool hB29 ?_
                      refine wpO.val rfl (oper_fieldAddr rfl fo36_1 nz9 rfl) rfl ?_
                      refine wpO.val rfl (oper_load H27 (i := 0) rfl rfl (part_one ag9 rfl)) rfl ?_
                      refine wpO.val rfl (oper_len rfl (lenTy_str st9) rfl) rfl ?_
                      refine wpO.val rfl (oper_bin rfl rfl binD_gtr) rfl ?_
                      refine wpO.val rfl (oper_pick (b := false) rfl rfl) rfl ?_
                      exact wpO.nil ⟨_, rfl, (WeakE.put (WeakE.push rfl (WeakE.push rfl (WeakE.push rfl (WeakE.push rfl (WeakE.put (.refl _) (Less.eq (by rw [hB29]))))))) (Less.eq (by rw [hB29]; rw [Bool.false_or])))⟩
                  ·
                    refine wpO.val rfl (oper_move rfl) rfl ?_
                    obtain ⟨z31, hzz31, h⟩ := bind_some h
                    refine wpO.groupV 7 64 (.d (.bool z31)) ?_ ?_
                    ·
                      rcases Bool.eq_false_or_eq_true ((((z22.Name == []) || (decide (64 < ((z22.Name).length : Int)))) || (decide (64 < ((z22.Value).length : Int))))) with hB30 | hB30
                      ·
                        refine wpO.bool hB30 ?_
                        refine wpO.no rfl rfl ?_
                        refine wpO.no rfl rfl ?_
                        refine wpO.no rfl rfl ?_
                        refine wpO.no rfl rfl ?_
                        refine wpO.no rfl rfl ?_
                        refine wpO.no rfl rfl ?_
                        refine wpO.val rfl (oper_pick (b := true) rfl rfl) rfl ?_
                        replace hzz31 := if_t hB30 hzz31
                        cases hzz31
                        exact wpO.nil ⟨_, rfl, (WeakE.put (WeakE.push rfl (WeakE.push rfl (WeakE.push rfl (WeakE.push rfl (WeakE.push rfl (WeakE.push rfl (WeakE.put (.refl _) (Less.eq (by rw [hB30]))))))))) (.refl _))⟩
                      ·
                        refine wpO.bool hB30 ?_
                        replace hzz31 := if_f hB30 hzz31
                        refine wpO.val rfl (oper_fieldAddr rfl fo28_3 nz25 rfl) rfl ?_
                        refine wpO.val rfl (oper_load H27 (i := 1) rfl rfl (part_one ag25 rfl)) rfl ?_
                        refine wpO.val rfl (oper_move rfl) rfl ?_
                        obtain ⟨z32, hzz32, hzz31⟩ := bind_some hzz31
                        refine wpO.val rfl (oper_cut_h rfl rfl el25 ue25 (fun z => (Attr.len z).trans sz36.symm) hzz32) rfl ?_
                        refine wpO.val rfl (oper_move rfl) rfl ?_
                        obtain ⟨z34, hzz34, hzz31⟩ := bind_some hzz31
                        refine wpO.ret rfl (oper_callF rfl rfl) (SpecF.argsL (slices_ContainsFunc__api_Attr_api_Attr__ok E n S26 _ _ _ (fun y33 => shape_element_1 n y33 z22) (fun S' hk hw y33 r hr => shape_element_1_ok E n y33 z22 S' _ (hk.H _ _ (H27.at (i := 0) rfl)) r hr) _ hzz34) (.cons (.refl _) (.cons (.refl _) .nil))) rfl ?_
                        refine wpO.val rfl (oper_pick (b := false) rfl rfl) rfl ?_
                        cases hzz31
                        exact wpO.nil ⟨_, rfl, (WeakE.put (WeakE.push rfl (WeakE.push rfl (WeakE.push rfl (WeakE.push rfl (WeakE.push rfl (WeakE.push rfl (WeakE.put (.refl _) (Less.eq (by rw [hB30]))))))))) (.refl _))⟩
                    ·
                      refine wpO.nil ?_
                      refine WpC.cond rfl (fun hb35 => ?_) (fun hb35 => ?_)
                      ·
                        replace h := if_t hb35 h
                        refine WpC.seq ?_
                        refine WpC.region E.obj rfl ?_
                        refine wpO.val rfl (oper_assign rfl) rfl ?_
                        refine wpO.nil ?_
                        have hr := Option.some.inj h
                        subst hr
                        exact WpC.ret ⟨_, rfl, rfl, end1 (ArgsC.eq .nil)⟩
                      ·
                        replace h := if_f hb35 h
                        refine WpC.skip ?_
                        refine WpC.region E.obj rfl ?_
                        refine wpO.val rfl (oper_bin rfl rfl binD_add) rfl ?_
                        refine wpO.val rfl (oper_move rfl) rfl ?_
                        refine wpO.nil ?_
                        exact ⟨(IntKind.wrap .i64 (x19 + 1)), _, _, S26, .refl _ _, .refl _, (WeakE.cons rfl (.refl _) (WeakE.cons rfl (.refl _) (WeakE.cons rfl (.refl _) (WeakE.cons rfl (.refl _) WeakE.nil)))), H27.sel [1] (by decide) rfl, h⟩
              ·
                replace h := if_f hb21 h
                refine WpC.exit ?_
                refine WpC.seq ?_
                refine WpC.region E.obj rfl ?_
                refine wpO.val rfl (oper_assign rfl) rfl ?_
                refine wpO.nil ?_
                have hr := Option.some.inj h
                subst hr
                exact WpC.ret ⟨_, rfl, rfl, end1 (ArgsC.eq .nil)⟩
set_option maxHeartbeats 4000000 in
theorem shape_right_ok : ∀ (n : Nat) (a1 : Tree) (r : Bool), shape_right n a1 = some r → SpecC R cfg.P 27 [(encTree a1)] (.d (.bool r))
  | 0, a1, r, h => by simp [shape_right] at h
  | n + 1, a1, r, h => by
    have ih := shape_right_ok n
    unfold shape_right at h
    refine SpecC.of_wp E.obj.toObjOk (C := cfg) Tryd.func27 rfl nm27 rfl ?_
    have H0 : Has pureSt pureSt [] := Has.pure
    refine WpC.seq ?_
    refine WpC.region E.obj rfl ?_
    refine wpO.box H0 rfl rfl rfl (Tree.cellsA _) rfl (fun b2 S3 H4 => ?_)
    refine wpO.val rfl (oper_assign rfl) rfl ?_
    refine wpO.nil ?_
    refine WpC.seq ?_
    refine WpC.seq ?_
    refine WpC.region E.obj rfl ?_
    refine wpO.val rfl (oper_fieldAddr rfl fo28_0 nz9 rfl) rfl ?_
    refine wpO.val rfl (oper_load H4 (i := 0) rfl rfl (part_one ag9 rfl)) rfl ?_
    refine wpO.val rfl (oper_bin rfl rfl binD_seql) rfl ?_
    refine wpO.nil ?_
    refine WpC.cond rfl (fun hb5 => ?_) (fun hb5 => ?_)
    ·
      replace h := if_t hb5 h
      refine WpC.seq ?_
      refine WpC.region E.obj rfl ?_
      refine wpO.val rfl (oper_fieldAddr rfl fo28_1 nz9 rfl) rfl ?_
      refine wpO.val rfl (oper_load H4 (i := 0) rfl rfl (part_one ag9 rfl)) rfl ?_
      refine wpO.val rfl (oper_bin rfl rfl binD_seql) rfl ?_
      refine wpO.val rfl (oper_move rfl) rfl ?_
      refine wpO.groupV 5 16 (.d (.bool ((a1.Key == []) && (((a1.Attrs).length : Int) == 0)))) ?_ ?_
      ·
        rcases Bool.eq_false_or_eq_true ((a1.Key == [])) with hB6 | hB6
        ·
          refine wpO.bool hB6 ?_
          refine wpO.val rfl (oper_fieldAddr rfl fo28_3 nz25 rfl) rfl ?_
          refine wpO.val rfl (oper_load H4 (i := 0) rfl rfl (part_one ag25 rfl)) rfl ?_
          refine wpO.val rfl (oper_lenL rfl es25) rfl ?_
          refine wpO.val rfl (oper_bin rfl rfl binD_eql) rfl ?_
          refine wpO.val rfl (oper_pick (b := true) rfl rfl) rfl ?_
          exact wpO.nil ⟨_, rfl, (WeakE.put (WeakE.push rfl (WeakE.push rfl (WeakE.push rfl (WeakE.push rfl (WeakE.put (.refl _) (Less.eq (by rw [hB6]))))))) (Less.eq (by rw [hB6]; rw [Bool.true_and])))⟩
        ·
          refine wpO.bool hB6 ?_
          refine wpO.no rfl rfl ?_
          refine wpO.no rfl rfl ?_
          refine wpO.no rfl rfl ?_
          refine wpO.no rfl rfl ?_
          refine wpO.val rfl (oper_pick (b := false) rfl rfl) rfl ?_
          exact wpO.nil ⟨_, rfl, (WeakE.put (WeakE.push rfl (WeakE.push rfl (WeakE.push rfl (WeakE.push rfl (WeakE.put (.refl _) (Less.eq (by rw [hB6]))))))) (Less.eq (by rw [hB6]; rw [Bool.false_and])))⟩
      ·
        refine wpO.val rfl (oper_move rfl) rfl ?_
        refine wpO.groupV 5 22 (.d (.bool (((a1.Key == []) && (((a1.Attrs).length : Int) == 0)) && (((a1.Kids).length : Int) == 0)))) ?_ ?_
        ·
          rcases Bool.eq_false_or_eq_true (((a1.Key == []) && (((a1.Attrs).length : Int) == 0))) with hB7 | hB7
          ·
            refine wpO.bool hB7 ?_
            refine wpO.val rfl (oper_fieldAddr rfl fo28_4 nz26 rfl) rfl ?_
            refine wpO.val rfl (oper_load H4 (i := 0) rfl rfl (part_one ag26 rfl)) rfl ?_
            refine wpO.val rfl (oper_lenL rfl es26) rfl ?_
            refine wpO.val rfl (oper_bin rfl rfl binD_eql) rfl ?_
            refine wpO.val rfl (oper_pick (b := true) rfl rfl) rfl ?_
            exact wpO.nil ⟨_, rfl, (WeakE.put (WeakE.push rfl (WeakE.push rfl (WeakE.push rfl (WeakE.push rfl (WeakE.put (.refl _) (Less.eq (by rw [hB7]))))))) (Less.eq (by rw [hB7]; rw [Bool.true_and])))⟩
          ·
            refine wpO.bool hB7 ?_
            refine wpO.no rfl rfl ?_
            refine wpO.no rfl rfl ?_
            refine wpO.no rfl rfl ?_
            refine wpO.no rfl rfl ?_
            refine wpO.val rfl (oper_pick (b := false) rfl rfl) rfl ?_
            exact wpO.nil ⟨_, rfl, (WeakE.put (WeakE.push rfl (WeakE.push rfl (WeakE.push rfl (WeakE.push rfl (WeakE.put (.refl _) (Less.eq (by rw [hB7]))))))) (Less.eq (by rw [hB7]; rw [Bool.false_and])))⟩
        ·
          refine wpO.val rfl (oper_move rfl) rfl ?_
          refine wpO.groupV 5 28 (.d (.bool ((((a1.Key == []) && (((a1.Attrs).length : Int) == 0)) && (((a1.Kids).length : Int) == 0)) && (decide (((a1.Text).length : Int) ≤ 64))))) ?_ ?_
          ·
            rcases Bool.eq_false_or_eq_true ((((a1.Key == []) && (((a1.Attrs).length : Int) == 0)) && (((a1.Kids).length : Int) == 0))) with hB8 | hB8
            ·
              refine wpO.bool hB8 ?_
              refine wpO.val rfl (oper_fieldAddr rfl fo28_2 nz9 rfl) rfl ?_
              refine wpO.val rfl (oper_load H4 (i := 0) rfl rfl (part_one ag9 rfl)) rfl ?_
              refine wpO.val rfl (oper_len rfl (lenTy_str st9) rfl) rfl ?_
              refine wpO.val rfl (oper_bin rfl rfl binD_leq) rfl ?_
              refine wpO.val rfl (oper_pick (b := true) rfl rfl) rfl ?_
              exact wpO.nil ⟨_, rfl, (WeakE.put (WeakE.push rfl (WeakE.push rfl (WeakE.push rfl (WeakE.push rfl (WeakE.put (.refl _) (Less.eq (by rw [hB8]))))))) (Less.eq (by rw [hB8]; rw [Bool.true_and])))⟩
            ·
              refine wpO.bool hB8 ?_
              refine wpO.no rfl rfl ?_
              refine wpO.no rfl rfl ?_
              refine wpO.no rfl rfl ?_
              refine wpO.no rfl rfl ?_
              refine wpO.val rfl (oper_pick (b := false) rfl rfl) rfl ?_
              exact wpO.nil ⟨_, rfl, (WeakE.put (WeakE.push rfl (WeakE.push rfl (WeakE.push rfl (WeakE.push rfl (WeakE.put (.refl _) (Less.eq (by rw [hB8]))))))) (Less.eq (by rw [hB8]; rw [Bool.false_and])))⟩
          ·
            refine wpO.val rfl (oper_assign rfl) rfl ?_
            refine wpO.nil ?_
            have hr := Option.some.inj h
            subst hr
            exact WpC.ret ⟨_, rfl, rfl, end1 (ArgsC.eq .nil)⟩
    ·
      replace h := if_f hb5 h
      refine WpC.skip ?_
      refine WpC.seq ?_
      refine WpC.seq ?_
      refine WpC.region E.obj rfl ?_
      refine wpO.val rfl (oper_load H4 (i := 0) rfl rfl (part_agg ag28 sz28 rfl)) rfl ?_
      refine wpO.less (Less.agg' (d := encTree a1) (CellsC.eq rfl (CellsC.eq rfl (CellsC.eq rfl (CellsC.eq rfl (CellsC.eq rfl .nil))))) ((Tree.eq _).trans rfl)) ?_
      obtain ⟨z9, hzz9, h⟩ := bind_some h
      refine wpO.ret rfl (oper_callF rfl rfl) (shape_element_ok E _ _ _ hzz9 _ _ (ArgsC.eq .nil)) rfl ?_
      refine wpO.val rfl (oper_not rfl) rfl ?_
      refine wpO.nil ?_
      refine WpC.cond rfl (fun hb10 => ?_) (fun hb10 => ?_)
      ·
        replace h := if_t hb10 h
        refine WpC.seq ?_
        refine WpC.region E.obj rfl ?_
        refine wpO.val rfl (oper_assign rfl) rfl ?_
        refine wpO.nil ?_
        have hr := Option.some.inj h
        subst hr
        exact WpC.ret ⟨_, rfl, rfl, end1 (ArgsC.eq .nil)⟩
      ·
        replace h := if_f hb10 h
        refine WpC.skip ?_
        refine WpC.seq ?_
        refine WpC.seq ?_
        refine WpC.region E.obj rfl ?_
        refine wpO.val rfl (oper_fieldAddr rfl fo28_4 nz26 rfl) rfl ?_
        refine wpO.val rfl (oper_load H4 (i := 0) rfl rfl (part_one ag26 rfl)) rfl ?_
        refine wpO.val rfl (oper_lenL rfl es26) rfl ?_
        refine wpO.val rfl (oper_move rfl) rfl ?_
        refine wpO.nil ?_
        refine WpC.block ?_
        refine WpL.start (B := pureSt) (α := Int) (fun k a => shape_right_l19 (shape_right n) a1 k a = some r) (fun a => [(33, (.d (.sl ((a1.Kids).map encTree) false))), (34, (.d (.int .i64 ((a1.Kids).length : Int)))), (35, (.d (.int .i64 a)))]) (fun a => []) ?_ ?_ n ⟨0, _, _, S3, .refl _ _, .refl _, (WeakE.cons rfl (.refl _) (WeakE.cons rfl (.refl _) (WeakE.cons rfl (.refl _) WeakE.nil))), H4.sel [] (by decide) rfl, h⟩
        · intro a h; simp [shape_right_l19] at h
        ·
          intro k19 x18 S16 H17 h
          replace h : shape_right_l19 (shape_right n) a1 (k19 + 1) x18 = some r := h
          replace H17 : Has pureSt S16 [] := H17
          unfold shape_right_l19 at h
          refine WpC.seq ?_
          refine WpC.region E.obj rfl ?_
          refine wpO.val rfl (oper_bin rfl rfl binD_lss) rfl ?_
          refine wpO.nil ?_
          refine WpC.seq ?_
          refine WpC.cond rfl (fun hb20 => ?_) (fun hb20 => ?_)
          ·
            replace h := if_t hb20 h
            refine WpC.skip ?_
            refine WpC.seq ?_
            refine WpC.block ?_
            refine WpC.seq ?_
            refine WpC.region E.obj rfl ?_
            obtain ⟨z21, hzz21, h⟩ := bind_some h
            refine wpO.val rfl (oper_idx rfl rfl (idxAddr (enc := encTree) hzz21 el26 as28 ((Tree.len _).trans sz28.symm))) rfl ?_
            refine wpO.val rfl (oper_loadE rfl (Tree.partW ag28 sz28)) rfl ?_
            refine wpO.alloc H17 rfl ob28 zo28 rfl rfl (fun b22 S23 H24 => ?_)
            refine wpO.store H24 (i := 0) rfl rfl rfl rfl (Tree.cellsA _) rfl sz28 rfl as28 rfl rfl rfl (fun S25 H26 => ?_)
            refine wpO.nil ?_
            refine WpC.seq ?_
            refine WpC.region E.obj rfl ?_
            refine wpO.val rfl (oper_load H26 (i := 0) rfl rfl (part_agg ag28 sz28 rfl)) rfl ?_
            refine wpO.less (Less.agg' (d := encTree z21) (CellsC.eq rfl (CellsC.eq rfl (CellsC.eq rfl (CellsC.eq rfl (CellsC.eq rfl .nil))))) ((Tree.eq _).trans rfl)) ?_
            obtain ⟨z27, hzz27, h⟩ := bind_some h
            refine wpO.ret rfl (oper_callF rfl rfl) (ih _ _ hzz27 _ _ (ArgsC.eq .nil)) rfl ?_
            refine wpO.val rfl (oper_not rfl) rfl ?_
            refine wpO.nil ?_
            refine WpC.cond rfl (fun hb28 => ?_) (fun hb28 => ?_)
            ·
              replace h := if_t hb28 h
              refine WpC.seq ?_
              refine WpC.region E.obj rfl ?_
              refine wpO.val rfl (oper_assign rfl) rfl ?_
              refine wpO.nil ?_
              have hr := Option.some.inj h
              subst hr
              exact WpC.ret ⟨_, rfl, rfl, end1 (ArgsC.eq .nil)⟩
            ·
              replace h := if_f hb28 h
              refine WpC.skip ?_
              refine WpC.region E.obj rfl ?_
              refine wpO.val rfl (oper_bin rfl rfl binD_add) rfl ?_
              refine wpO.val rfl (oper_move rfl) rfl ?_
              refine wpO.nil ?_
              exact ⟨(IntKind.wrap .i64 (x18 + 1)), _, _, S25, .refl _ _, .refl _, (WeakE.cons rfl (.refl _) (WeakE.cons rfl (.refl _) (WeakE.cons rfl (.refl _) WeakE.nil))), H26.sel [] (by decide) rfl, h⟩
          ·
            replace h := if_f hb20 h
            refine WpC.exit ?_
            refine WpC.seq ?_
            refine WpC.region E.obj rfl ?_
            refine wpO.val rfl (oper_assign rfl) rfl ?_
            refine wpO.nil ?_
            have hr := Option.some.inj h
            subst hr
            exact WpC.ret ⟨_, rfl, rfl, end1 (ArgsC.eq .nil)⟩
set_option maxHeartbeats 4000000 in
theorem shape_Right_ok (n : Nat) (a1 : Tree) (r : Bool) (h : shape_Right n a1 = some r) : SpecC R cfg.P 11 [(encTree a1)] (.d (.bool r)) := by
  unfold shape_Right at h
  refine SpecC.of_wp E.obj.toObjOk (C := cfg) Tryd.func11 rfl nm11 rfl ?_
  have H0 : Has pureSt pureSt [] := Has.pure
  refine WpC.seq ?_
  refine WpC.region E.obj rfl ?_
  refine wpO.box H0 rfl rfl rfl (Tree.cellsA _) rfl (fun b2 S3 H4 => ?_)
  refine wpO.val rfl (oper_assign rfl) rfl ?_
  refine wpO.nil ?_
  refine WpC.seq ?_
  refine WpC.region E.obj rfl ?_
  refine wpO.val rfl (oper_load H4 (i := 0) rfl rfl (part_agg ag28 sz28 rfl)) rfl ?_
  refine wpO.less (Less.agg' (d := encTree a1) (CellsC.eq rfl (CellsC.eq rfl (CellsC.eq rfl (CellsC.eq rfl (CellsC.eq rfl .nil))))) ((Tree.eq _).trans rfl)) ?_
  obtain ⟨z5, hzz5, h⟩ := bind_some h
  refine wpO.ret rfl (oper_callF rfl rfl) (shape_right_ok E _ _ _ hzz5 _ _ (ArgsC.eq .nil)) rfl ?_
  refine wpO.val rfl (oper_move rfl) rfl ?_
  obtain ⟨z7, hzz7, h⟩ := bind_some h
  refine wpO.groupV 4 9 (.d (.bool z7)) ?_ ?_
  ·
    rcases Bool.eq_false_or_eq_true (z5) with hB6 | hB6
    ·
      refine wpO.bool hB6 ?_
      replace hzz7 := if_t hB6 hzz7
      refine wpO.val rfl (oper_load H4 (i := 0) rfl rfl (part_agg ag28 sz28 rfl)) rfl ?_
      refine wpO.less (Less.agg' (d := encTree a1) (CellsC.eq rfl (CellsC.eq rfl (CellsC.eq rfl (CellsC.eq rfl (CellsC.eq rfl .nil))))) ((Tree.eq _).trans rfl)) ?_
      obtain ⟨z8, hzz8, hzz7⟩ := bind_some hzz7
      refine wpO.ret rfl (oper_callF rfl rfl) (shape_Count_ok E _ _ _ hzz8 _ _ (ArgsC.eq .nil)) rfl ?_
      refine wpO.val rfl (oper_bin rfl rfl binD_leq) rfl ?_
      refine wpO.val rfl (oper_pick (b := true) rfl rfl) rfl ?_
      cases hzz7
      exact wpO.nil ⟨_, rfl, (WeakE.put (WeakE.push rfl (WeakE.push rfl (WeakE.push rfl (WeakE.put (.refl _) (Less.eq (by rw [hB6])))))) (.refl _))⟩
    ·
      refine wpO.bool hB6 ?_
      refine wpO.no rfl rfl ?_
      refine wpO.no rfl rfl ?_
      refine wpO.no rfl rfl ?_
      refine wpO.val rfl (oper_pick (b := false) rfl rfl) rfl ?_
      replace hzz7 := if_f hB6 hzz7
      cases hzz7
      exact wpO.nil ⟨_, rfl, (WeakE.put (WeakE.push rfl (WeakE.push rfl (WeakE.push rfl (WeakE.put (.refl _) (Less.eq (by rw [hB6])))))) (.refl _))⟩
  ·
    refine wpO.val rfl (oper_move rfl) rfl ?_
    obtain ⟨z10, hzz10, h⟩ := bind_some h
    refine wpO.groupV 4 14 (.d (.bool z10)) ?_ ?_
    ·
      rcases Bool.eq_false_or_eq_true (z7) with hB9 | hB9
      ·
        refine wpO.bool hB9 ?_
        replace hzz10 := if_t hB9 hzz10
        refine wpO.val rfl (oper_load H4 (i := 0) rfl rfl (part_agg ag28 sz28 rfl)) rfl ?_
        refine wpO.less (Less.agg' (d := encTree a1) (CellsC.eq rfl (CellsC.eq rfl (CellsC.eq rfl (CellsC.eq rfl (CellsC.eq rfl .nil))))) ((Tree.eq _).trans rfl)) ?_
        obtain ⟨z11, hzz11, hzz10⟩ := bind_some hzz10
        refine wpO.ret rfl (oper_callF rfl rfl) (shape_Deep_ok E _ _ _ hzz11 _ _ (ArgsC.eq .nil)) rfl ?_
        refine wpO.val rfl (oper_bin rfl rfl binD_leq) rfl ?_
        refine wpO.val rfl (oper_pick (b := true) rfl rfl) rfl ?_
        cases hzz10
        exact wpO.nil ⟨_, rfl, (WeakE.put (WeakE.push rfl (WeakE.push rfl (WeakE.push rfl (WeakE.put (.refl _) (Less.eq (by rw [hB9])))))) (.refl _))⟩
      ·
        refine wpO.bool hB9 ?_
        refine wpO.no rfl rfl ?_
        refine wpO.no rfl rfl ?_
        refine wpO.no rfl rfl ?_
        refine wpO.val rfl (oper_pick (b := false) rfl rfl) rfl ?_
        replace hzz10 := if_f hB9 hzz10
        cases hzz10
        exact wpO.nil ⟨_, rfl, (WeakE.put (WeakE.push rfl (WeakE.push rfl (WeakE.push rfl (WeakE.put (.refl _) (Less.eq (by rw [hB9])))))) (.refl _))⟩
    ·
      refine wpO.val rfl (oper_assign rfl) rfl ?_
      refine wpO.nil ?_
      have hr := Option.some.inj h
      subst hr
      exact WpC.ret ⟨_, rfl, rfl, end1 (ArgsC.eq .nil)⟩
set_option maxHeartbeats 4000000 in
theorem shape_Slots_ok : ∀ (n : Nat) (a1 : Tree) (r : Int), shape_Slots n a1 = some r → SpecC R cfg.P 16 [(encTree a1)] (.d (.int .i64 r))
  | 0, a1, r, h => by simp [shape_Slots] at h
  | n + 1, a1, r, h => by
    have ih := shape_Slots_ok n
    unfold shape_Slots at h
    refine SpecC.of_wp E.obj.toObjOk (C := cfg) Tryd.func16 rfl nm16 rfl ?_
    have H0 : Has pureSt pureSt [] := Has.pure
    refine WpC.seq ?_
    refine WpC.region E.obj rfl ?_
    refine wpO.box H0 rfl rfl rfl (Tree.cellsA _) rfl (fun b2 S3 H4 => ?_)
    refine wpO.val rfl (oper_assign rfl) rfl ?_
    refine wpO.nil ?_
    refine WpC.seq ?_
    refine WpC.region E.obj rfl ?_
    refine wpO.val rfl (oper_assign rfl) rfl ?_
    refine wpO.nil ?_
    refine WpC.join (B := pureSt) (α := Int) (fun a => shape_Slots_j8 n (shape_Slots n) a1 a = some r) (fun a => [(1, (.ptr b2 0 0)), (3, (.d (.int .i64 a)))]) (fun a => [.box b2 [(.d (.str a1.Tag)), (.d (.str a1.Key)), (.d (.str a1.Text)), (.d (.sl ((a1.Attrs).map encAttr) false)), (.d (.sl ((a1.Kids).map encTree) false))]]) ?_ ?_
    ·
      intro x7 S5 H6 h
      replace h : shape_Slots_j8 n (shape_Slots n) a1 x7 = some r := h
      replace H6 : Has pureSt S5 [.box b2 [(.d (.str a1.Tag)), (.d (.str a1.Key)), (.d (.str a1.Text)), (.d (.sl ((a1.Attrs).map encAttr) false)), (.d (.sl ((a1.Kids).map encTree) false))]] := H6
      unfold shape_Slots_j8 at h
      refine WpC.seq ?_
      refine WpC.seq ?_
      refine WpC.region E.obj rfl ?_
      refine wpO.val rfl (oper_fieldAddr rfl fo28_4 nz26 rfl) rfl ?_
      refine wpO.val rfl (oper_load H6 (i := 0) rfl rfl (part_one ag26 rfl)) rfl ?_
      refine wpO.val rfl (oper_lenL rfl es26) rfl ?_
      refine wpO.val rfl (oper_move rfl) rfl ?_
      refine wpO.nil ?_
      refine WpC.block ?_
      refine WpL.start (B := pureSt) (α := Int × Int) (fun k a => shape_Slots_l19 (shape_Slots n) a1 k a.1 a.2 = some r) (fun a => [(3, (.d (.int .i64 a.1))), (10, (.d (.sl ((a1.Kids).map encTree) false))), (11, (.d (.int .i64 ((a1.Kids).length : Int)))), (12, (.d (.int .i64 a.2)))]) (fun a => []) ?_ ?_ n ⟨⟨x7, 0⟩, _, _, S5, .refl _ _, .refl _, (WeakE.cons rfl (.refl _) (WeakE.cons rfl (.refl _) (WeakE.cons rfl (.refl _) (WeakE.cons rfl (.refl _) WeakE.nil)))), H6.sel [] (by decide) rfl, h⟩
      · intro a h; simp [shape_Slots_l19] at h
      ·
        intro k19 a S15 H16 h
        obtain ⟨x17, x18⟩ := a
        replace h : shape_Slots_l19 (shape_Slots n) a1 (k19 + 1) x17 x18 = some r := h
        replace H16 : Has pureSt S15 [] := H16
        unfold shape_Slots_l19 at h
        refine WpC.seq ?_
        refine WpC.region E.obj rfl ?_
        refine wpO.val rfl (oper_bin rfl rfl binD_lss) rfl ?_
        refine wpO.nil ?_
        refine WpC.seq ?_
        refine WpC.cond rfl (fun hb20 => ?_) (fun hb20 => ?_)
        ·
          replace h := if_t hb20 h
          refine WpC.skip ?_
          refine WpC.seq ?_
          refine WpC.block ?_
          refine WpC.seq ?_
          refine WpC.region E.obj rfl ?_
          obtain ⟨z21, hzz21, h⟩ := bind_some h
          refine wpO.val rfl (oper_idx rfl rfl (idxAddr (enc := encTree) hzz21 el26 as28 ((Tree.len _).trans sz28.symm))) rfl ?_
          refine wpO.val rfl (oper_loadE rfl (Tree.partW ag28 sz28)) rfl ?_
          refine wpO.alloc H16 rfl ob28 zo28 rfl rfl (fun b22 S23 H24 => ?_)
          refine wpO.store H24 (i := 0) rfl rfl rfl rfl (Tree.cellsA _) rfl sz28 rfl as28 rfl rfl rfl (fun S25 H26 => ?_)
          refine wpO.nil ?_
          refine WpC.region E.obj rfl ?_
          refine wpO.val rfl (oper_move rfl) rfl ?_
          refine wpO.val rfl (oper_load H26 (i := 0) rfl rfl (part_agg ag28 sz28 rfl)) rfl ?_
          refine wpO.less (Less.agg' (d := encTree z21) (CellsC.eq rfl (CellsC.eq rfl (CellsC.eq rfl (CellsC.eq rfl (CellsC.eq rfl .nil))))) ((Tree.eq _).trans rfl)) ?_
          obtain ⟨z27, hzz27, h⟩ := bind_some h
          refine wpO.ret rfl (oper_callF rfl rfl) (ih _ _ hzz27 _ _ (ArgsC.eq .nil)) rfl ?_
          refine wpO.val rfl (oper_bin rfl rfl binD_add) rfl ?_
          refine wpO.val rfl (oper_assign rfl) rfl ?_
          refine wpO.nil ?_
          refine WpC.region E.obj rfl ?_
          refine wpO.val rfl (oper_bin rfl rfl binD_add) rfl ?_
          refine wpO.val rfl (oper_move rfl) rfl ?_
          refine wpO.nil ?_
          exact ⟨⟨(IntKind.wrap .i64 (x17 + z27)), (IntKind.wrap .i64 (x18 + 1))⟩, _, _, S25, .refl _ _, .refl _, (WeakE.cons rfl (.refl _) (WeakE.cons rfl (.refl _) (WeakE.cons rfl (.refl _) (WeakE.cons rfl (.refl _) WeakE.nil)))), H26.sel [] (by decide) rfl, h⟩
        ·
          replace h := if_f hb20 h
          refine WpC.exit ?_
          refine WpC.seq ?_
          refine WpC.region E.obj rfl ?_
          refine wpO.val rfl (oper_move rfl) rfl ?_
          refine wpO.val rfl (oper_assign rfl) rfl ?_
          refine wpO.nil ?_
          have hr := Option.some.inj h
          subst hr
          exact WpC.ret ⟨_, rfl, rfl, end1 (ArgsC.eq .nil)⟩
    ·
      refine WpC.seq ?_
      refine WpC.region E.obj rfl ?_
      refine wpO.val rfl (oper_fieldAddr rfl fo28_0 nz9 rfl) rfl ?_
      refine wpO.val rfl (oper_load H4 (i := 0) rfl rfl (part_one ag9 rfl)) rfl ?_
      refine wpO.val rfl (oper_bin rfl rfl binD_seql) rfl ?_
      refine wpO.nil ?_
      refine WpC.cond rfl (fun hb28 => ?_) (fun hb28 => ?_)
      ·
        replace h := if_t hb28 h
        refine WpC.region E.obj rfl ?_
        refine wpO.val rfl (oper_assign rfl) rfl ?_
        refine wpO.nil ?_
        exact ⟨1, _, _, S3, .refl _ _, .refl _, (WeakE.cons rfl (.refl _) (WeakE.cons rfl (.refl _) WeakE.nil)), H4.sel [0] (by decide) rfl, h⟩
      ·
        replace h := if_f hb28 h
        refine WpC.skip ?_
        exact ⟨0, _, _, S3, .refl _ _, .refl _, (WeakE.cons rfl (.refl _) (WeakE.cons rfl (.refl _) WeakE.nil)), H4.sel [0] (by decide) rfl, h⟩
set_option maxHeartbeats 4000000 in
theorem slices_Equal__api_Attr_api_Attr__ok (n : Nat) (a1 : (List Attr)) (a2 : (List Attr)) (r : Bool) (h : slices_Equal__api_Attr_api_Attr_ n a1 a2 = some r) : SpecC R cfg.P 28 [(.sl ((a1).map encAttr) false), (.sl ((a2).map encAttr) false)] (.d (.bool r)) := by
  unfold slices_Equal__api_Attr_api_Attr_ at h
  refine SpecC.of_wp E.obj.toObjOk (C := cfg) Tryd.func28 rfl nm28 rfl ?_
  have H0 : Has pureSt pureSt [] := Has.pure
  refine WpC.seq ?_
  refine WpC.region E.obj rfl ?_
  refine wpO.val rfl (oper_assign rfl) rfl ?_
  refine wpO.nil ?_
  refine WpC.seq ?_
  refine WpC.seq ?_
  refine WpC.region E.obj rfl ?_
  refine wpO.val rfl (oper_move rfl) rfl ?_
  refine wpO.val rfl (oper_lenL rfl es25) rfl ?_
  refine wpO.val rfl (oper_move rfl) rfl ?_
  refine wpO.val rfl (oper_lenL rfl es25) rfl ?_
  refine wpO.val rfl (oper_bin rfl rfl binD_neq) rfl ?_
  refine wpO.nil ?_
  refine WpC.cond rfl (fun hb3 => ?_) (fun hb3 => ?_)
  ·
    replace h := if_t hb3 h
    refine WpC.seq ?_
    refine WpC.region E.obj rfl ?_
    refine wpO.val rfl (oper_assign rfl) rfl ?_
    refine wpO.nil ?_
    have hr := Option.some.inj h
    subst hr
    exact WpC.ret ⟨_, rfl, rfl, end1 (ArgsC.eq .nil)⟩
  ·
    replace h := if_f hb3 h
    refine WpC.skip ?_
    refine WpC.seq ?_
    refine WpC.seq ?_
    refine WpC.region E.obj rfl ?_
    refine wpO.val rfl (oper_move rfl) rfl ?_
    refine wpO.val rfl (oper_lenL rfl es25) rfl ?_
    refine wpO.val rfl (oper_move rfl) rfl ?_
    refine wpO.nil ?_
    refine WpC.block ?_
    refine WpL.start (B := pureSt) (α := Int) (fun k a => slices_Equal__api_Attr_api_Attr__l12 a1 a2 k a = some r) (fun a => [(0, (.d (.sl ((a1).map encAttr) false))), (1, (.d (.sl ((a2).map encAttr) false))), (12, (.d (.int .i64 ((a1).length : Int)))), (13, (.d (.int .i64 a)))]) (fun a => []) ?_ ?_ n ⟨0, _, _, pureSt, .refl _ _, .refl _, (WeakE.cons rfl (.refl _) (WeakE.cons rfl (.refl _) (WeakE.cons rfl (.refl _) (WeakE.cons rfl (.refl _) WeakE.nil)))), H0.sel [] (by decide) rfl, h⟩
    · intro a h; simp [slices_Equal__api_Attr_api_Attr__l12] at h
    ·
      intro k12 x11 S9 H10 h
      replace h : slices_Equal__api_Attr_api_Attr__l12 a1 a2 (k12 + 1) x11 = some r := h
      replace H10 : Has pureSt S9 [] := H10
      unfold slices_Equal__api_Attr_api_Attr__l12 at h
      refine WpC.seq ?_
      refine WpC.region E.obj rfl ?_
      refine wpO.val rfl (oper_bin rfl rfl binD_lss) rfl ?_
      refine wpO.nil ?_
      refine WpC.seq ?_
      refine WpC.cond rfl (fun hb13 => ?_) (fun hb13 => ?_)
      ·
        replace h := if_t hb13 h
        refine WpC.skip ?_
        refine WpC.seq ?_
        refine WpC.block ?_
        refine WpC.seq ?_
        refine WpC.region E.obj rfl ?_
        refine wpO.val rfl (oper_move rfl) rfl ?_
        refine wpO.val rfl (oper_assign rfl) rfl ?_
        refine wpO.nil ?_
        refine WpC.seq ?_
        obtain ⟨z14, hzz14, h⟩ := bind_some h
        obtain ⟨z15, hzz15, h⟩ := bind_some h
        refine WpC.drawP E.obj hmix [[(0, none)], [(5, none)], [(16, some 0), (17, some 1)], [(18, some 2)], [(1, none)], [(5, none)], [(20, some 4), (21, some 5)], [(22, some 6)], [(19, some 3), (23, some 7)]] [(0, none), (1, none), (12, none), (13, none), (24, some 8)] (by kernel_rfl) [] (by decide) [some (.d (.sl ((a1).map encAttr) false)), some (.d (.int .i64 x11)), some (.eptr (encAttr z14) 0), some (.d (encAttr z14)), some (.d (.sl ((a2).map encAttr) false)), some (.d (.int .i64 x11)), some (.eptr (encAttr z15) 0), some (.d (encAttr z15)), some (.d (.bool (!(Attr.beq z14 z15))))] ?_
        refine ⟨[0, 1, 2, 3, 4, 5, 6, 7, 8], by kernel_rfl, ?_, _, rfl, ?_⟩
        ·
          refine .cons rfl rfl rfl (.step ?_) ?_
          ·
            refine wpO.val rfl (oper_move rfl) rfl ?_
            exact wpO.nil ⟨_, _, rfl, fun _ ht => by cases ht; exact ⟨rfl, .refl _⟩⟩
          refine .cons rfl rfl rfl (.step ?_) ?_
          ·
            refine wpO.val rfl (oper_move rfl) rfl ?_
            exact wpO.nil ⟨_, _, rfl, fun _ ht => by cases ht; exact ⟨rfl, .refl _⟩⟩
          refine .cons rfl rfl rfl (.step ?_) ?_
          ·
            refine wpO.val rfl (oper_idx rfl rfl (idxAddr (enc := encAttr) hzz14 el25 as36 ((Attr.len _).trans sz36.symm))) rfl ?_
            exact wpO.nil ⟨_, _, rfl, fun _ ht => by cases ht; exact ⟨rfl, .refl _⟩⟩
          refine .cons rfl rfl rfl (.step ?_) ?_
          ·
            refine wpO.val rfl (oper_loadE rfl (Attr.partW ag36 sz36)) rfl ?_
            exact wpO.nil ⟨_, _, rfl, fun _ ht => by cases ht; exact ⟨rfl, .refl _⟩⟩
          refine .cons rfl rfl rfl (.step ?_) ?_
          ·
            refine wpO.val rfl (oper_move rfl) rfl ?_
            exact wpO.nil ⟨_, _, rfl, fun _ ht => by cases ht; exact ⟨rfl, .refl _⟩⟩
          refine .cons rfl rfl rfl (.step ?_) ?_
          ·
            refine wpO.val rfl (oper_move rfl) rfl ?_
            exact wpO.nil ⟨_, _, rfl, fun _ ht => by cases ht; exact ⟨rfl, .refl _⟩⟩
          refine .cons rfl rfl rfl (.step ?_) ?_
          ·
            refine wpO.val rfl (oper_idx rfl rfl (idxAddr (enc := encAttr) hzz15 el25 as36 ((Attr.len _).trans sz36.symm))) rfl ?_
            exact wpO.nil ⟨_, _, rfl, fun _ ht => by cases ht; exact ⟨rfl, .refl _⟩⟩
          refine .cons rfl rfl rfl (.step ?_) ?_
          ·
            refine wpO.val rfl (oper_loadE rfl (Attr.partW ag36 sz36)) rfl ?_
            exact wpO.nil ⟨_, _, rfl, fun _ ht => by cases ht; exact ⟨rfl, .refl _⟩⟩
          refine .cons rfl rfl rfl (.step ?_) ?_
          ·
            refine wpO.val rfl (oper_bin rfl rfl (binD_stneq (Attr.eq _) (Attr.eq _) (eqD36 _ _))) rfl ?_
            exact wpO.nil ⟨_, _, rfl, fun _ ht => by cases ht; exact ⟨rfl, .refl _⟩⟩
          exact .nil
        refine WpC.cond rfl (fun hb16 => ?_) (fun hb16 => ?_)
        ·
          replace h := if_t hb16 h
          refine WpC.seq ?_
          refine WpC.region E.obj rfl ?_
          refine wpO.val rfl (oper_assign rfl) rfl ?_
          refine wpO.nil ?_
          have hr := Option.some.inj h
          subst hr
          exact WpC.ret ⟨_, rfl, rfl, end1 (ArgsC.eq .nil)⟩
        ·
          replace h := if_f hb16 h
          refine WpC.skip ?_
          refine WpC.region E.obj rfl ?_
          refine wpO.val rfl (oper_bin rfl rfl binD_add) rfl ?_
          refine wpO.val rfl (oper_move rfl) rfl ?_
          refine wpO.nil ?_
          exact ⟨(IntKind.wrap .i64 (x11 + 1)), _, _, S9, .refl _ _, .refl _, (WeakE.cons rfl (.refl _) (WeakE.cons rfl (.refl _) (WeakE.cons rfl (.refl _) (WeakE.cons rfl (.refl _) WeakE.nil)))), H10.sel [] (by decide) rfl, h⟩
      ·
        replace h := if_f hb13 h
        refine WpC.exit ?_
        refine WpC.seq ?_
        refine WpC.region E.obj rfl ?_
        refine wpO.val rfl (oper_assign rfl) rfl ?_
        refine wpO.nil ?_
        have hr := Option.some.inj h
        subst hr
        exact WpC.ret ⟨_, rfl, rfl, end1 (ArgsC.eq .nil)⟩
set_option maxHeartbeats 4000000 in
theorem slices_EqualFunc__api_Tree__api_Tree_api_Tree_api_Tree__ok (n : Nat) (S0 : St) (a1 : (List Tree)) (a2 : (List Tree)) (fg4 : Nat) (fc5 : List AV) (p3 : Tree → Tree → Option Bool) (hpp3 : ∀ S', Keeps S0 S' → S'.Wf → ∀ (y0 : Tree) (y1 : Tree) (r : Bool), p3 y0 y1 = some r → SpecF R cfg.P fg4 ([.d (encTree y0), .d (encTree y1)] ++ fc5) S' (fun o => o = (none, .d (.bool r), S'))) (r : Bool) (h : slices_EqualFunc__api_Tree__api_Tree_api_Tree_api_Tree_ n a1 a2 p3 = some r) : SpecF R cfg.P 29 [.d (.sl ((a1).map encTree) false), .d (.sl ((a2).map encTree) false), .fn fg4 fc5] S0 (fun o => o = (none, .d (.bool r), S0)) := by
  unfold slices_EqualFunc__api_Tree__api_Tree_api_Tree_api_Tree_ at h
  refine SpecS.of_wp (C := cfg) Tryd.func29 rfl nm29 rfl (fun wf0 => ?_)
  have H0 : Has S0 S0 [] := Has.start wf0
  refine WpC.seq ?_
  refine WpC.region E.obj rfl ?_
  refine wpO.val rfl (oper_assign rfl) rfl ?_
  refine wpO.nil ?_
  refine WpC.seq ?_
  refine WpC.seq ?_
  refine WpC.region E.obj rfl ?_
  refine wpO.val rfl (oper_move rfl) rfl ?_
  refine wpO.val rfl (oper_lenL rfl es26) rfl ?_
  refine wpO.val rfl (oper_move rfl) rfl ?_
  refine wpO.val rfl (oper_lenL rfl es26) rfl ?_
  refine wpO.val rfl (oper_bin rfl rfl binD_neq) rfl ?_
  refine wpO.nil ?_
  refine WpC.cond rfl (fun hb6 => ?_) (fun hb6 => ?_)
  ·
    replace h := if_t hb6 h
    refine WpC.seq ?_
    refine WpC.region E.obj rfl ?_
    refine wpO.val rfl (oper_assign rfl) rfl ?_
    refine wpO.nil ?_
    have hr := Option.some.inj h
    subst hr
    exact WpC.ret ⟨_, rfl, rfl, H0.keeps, end1 (ArgsC.eq .nil)⟩
  ·
    replace h := if_f hb6 h
    refine WpC.skip ?_
    refine WpC.seq ?_
    refine WpC.seq ?_
    refine WpC.region E.obj rfl ?_
    refine wpO.val rfl (oper_move rfl) rfl ?_
    refine wpO.val rfl (oper_lenL rfl es26) rfl ?_
    refine wpO.val rfl (oper_move rfl) rfl ?_
    refine wpO.nil ?_
    refine WpC.block ?_
    refine WpL.start (B := S0) (α := Int) (fun k a => slices_EqualFunc__api_Tree__api_Tree_api_Tree_api_Tree__l15 a1 a2 p3 k a = some r) (fun a => [(1, (.d (.sl ((a2).map encTree) false))), (2, (.fn fg4 fc5)), (15, (.d (.sl ((a1).map encTree) false))), (16, (.d (.int .i64 ((a1).length : Int)))), (17, (.d (.int .i64 a)))]) (fun a => []) ?_ ?_ n ⟨0, _, _, S0, .refl _ _, .refl _, (WeakE.cons rfl (.refl _) (WeakE.cons rfl (.refl _) (WeakE.cons rfl (.refl _) (WeakE.cons rfl (.refl _) (WeakE.cons rfl (.refl _) WeakE.nil))))), H0.sel [] (by decide) rfl, h⟩
    · intro a h; simp [slices_EqualFunc__api_Tree__api_Tree_api_Tree_api_Tree__l15] at h
    ·
      intro k15 x14 S12 H13 h
      replace h : slices_EqualFunc__api_Tree__api_Tree_api_Tree_api_Tree__l15 a1 a2 p3 (k15 + 1) x14 = some r := h
      replace H13 : Has S0 S12 [] := H13
      unfold slices_EqualFunc__api_Tree__api_Tree_api_Tree_api_Tree__l15 at h
      refine WpC.seq ?_
      refine WpC.region E.obj rfl ?_
      refine wpO.val rfl (oper_bin rfl rfl binD_lss) rfl ?_
      refine wpO.nil ?_
      refine WpC.seq ?_
      refine WpC.cond rfl (fun hb16 => ?_) (fun hb16 => ?_)
      ·
        replace h := if_t hb16 h
        refine WpC.skip ?_
        refine WpC.seq ?_
        refine WpC.block ?_
        refine WpC.seq ?_
        refine WpC.region E.obj rfl ?_
        refine wpO.val rfl (oper_move rfl) rfl ?_
        obtain ⟨z17, hzz17, h⟩ := bind_some h
        refine wpO.val rfl (oper_idx rfl rfl (idxAddr (enc := encTree) hzz17 el26 as28 ((Tree.len _).trans sz28.symm))) rfl ?_
        refine wpO.val rfl (oper_loadE rfl (Tree.partW ag28 sz28)) rfl ?_
        refine wpO.alloc H13 rfl ob28 zo28 rfl rfl (fun b18 S19 H20 => ?_)
        refine wpO.val rfl (oper_assign rfl) rfl ?_
        refine wpO.store H20 (i := 0) rfl rfl rfl rfl (Tree.cellsA _) rfl sz28 rfl as28 rfl rfl rfl (fun S21 H22 => ?_)
        refine wpO.nil ?_
        refine WpC.seq ?_
        refine WpC.region E.obj rfl ?_
        refine wpO.val rfl (oper_move rfl) rfl ?_
        refine wpO.val rfl (oper_move rfl) rfl ?_
        obtain ⟨z23, hzz23, h⟩ := bind_some h
        refine wpO.val rfl (oper_idx rfl rfl (idxAddr (enc := encTree) hzz23 el26 as28 ((Tree.len _).trans sz28.symm))) rfl ?_
        refine wpO.val rfl (oper_loadE rfl (Tree.partW ag28 sz28)) rfl ?_
        refine wpO.alloc H22 rfl ob28 zo28 rfl rfl (fun b24 S25 H26 => ?_)
        refine wpO.store H26 (i := 0) rfl rfl rfl rfl (Tree.cellsA _) rfl sz28 rfl as28 rfl rfl rfl (fun S27 H28 => ?_)
        refine wpO.nil ?_
        refine WpC.seq ?_
        refine WpC.region E.obj rfl ?_
        refine wpO.val rfl (oper_move rfl) rfl ?_
        refine wpO.val rfl (oper_load H28 (i := 1) rfl rfl (part_agg ag28 sz28 rfl)) rfl ?_
        refine wpO.less (Less.agg' (d := encTree z17) (CellsC.eq rfl (CellsC.eq rfl (CellsC.eq rfl (CellsC.eq rfl (CellsC.eq rfl .nil))))) ((Tree.eq _).trans rfl)) ?_
        refine wpO.val rfl (oper_load H28 (i := 0) rfl rfl (part_agg ag28 sz28 rfl)) rfl ?_
        refine wpO.less (Less.agg' (d := encTree z23) (CellsC.eq rfl (CellsC.eq rfl (CellsC.eq rfl (CellsC.eq rfl (CellsC.eq rfl .nil))))) ((Tree.eq _).trans rfl)) ?_
        obtain ⟨z29, hzz29, h⟩ := bind_some h
        refine wpO.ret rfl (oper_callV rfl rfl) (hpp3 _ H28.keeps H28.wf _ _ _ hzz29) rfl ?_
        refine wpO.val rfl (oper_not rfl) rfl ?_
        refine wpO.nil ?_
        refine WpC.cond rfl (fun hb30 => ?_) (fun hb30 => ?_)
        ·
          replace h := if_t hb30 h
          refine WpC.seq ?_
          refine WpC.region E.obj rfl ?_
          refine wpO.val rfl (oper_assign rfl) rfl ?_
          refine wpO.nil ?_
          have hr := Option.some.inj h
          subst hr
          exact WpC.ret ⟨_, rfl, rfl, H28.keeps, end1 (ArgsC.eq .nil)⟩
        ·
          replace h := if_f hb30 h
          refine WpC.skip ?_
          refine WpC.region E.obj rfl ?_
          refine wpO.val rfl (oper_bin rfl rfl binD_add) rfl ?_
          refine wpO.val rfl (oper_move rfl) rfl ?_
          refine wpO.nil ?_
          exact ⟨(IntKind.wrap .i64 (x14 + 1)), _, _, S27, .refl _ _, .refl _, (WeakE.cons rfl (.refl _) (WeakE.cons rfl (.refl _) (WeakE.cons rfl (.refl _) (WeakE.cons rfl (.refl _) (WeakE.cons rfl (.refl _) WeakE.nil))))), H28.sel [] (by decide) rfl, h⟩
      ·
        replace h := if_f hb16 h
        refine WpC.exit ?_
        refine WpC.seq ?_
        refine WpC.region E.obj rfl ?_
        refine wpO.val rfl (oper_assign rfl) rfl ?_
        refine wpO.nil ?_
        have hr := Option.some.inj h
        subst hr
        exact WpC.ret ⟨_, rfl, rfl, H13.keeps, end1 (ArgsC.eq .nil)⟩
set_option maxHeartbeats 4000000 in
theorem shape_Same_ok : ∀ (n : Nat) (a1 : Tree) (a2 : Tree) (r : Bool), shape_Same n a1 a2 = some r → SpecC R cfg.P 17 [(encTree a1), (encTree a2)] (.d (.bool r))
  | 0, a1, a2, r, h => by simp [shape_Same] at h
  | n + 1, a1, a2, r, h => by
    have ih := shape_Same_ok n
    unfold shape_Same at h
    refine SpecC.of_wp E.obj.toObjOk (C := cfg) Tryd.func17 rfl nm17 rfl ?_
    have H0 : Has pureSt pureSt [] := Has.pure
    refine WpC.seq ?_
    refine WpC.region E.obj rfl ?_
    refine wpO.box H0 rfl rfl rfl (Tree.cellsA _) rfl (fun b3 S4 H5 => ?_)
    refine wpO.box H5 rfl rfl rfl (Tree.cellsA _) rfl (fun b6 S7 H8 => ?_)
    refine wpO.val rfl (oper_assign rfl) rfl ?_
    refine wpO.nil ?_
    refine WpC.seq ?_
    refine WpC.region E.obj rfl ?_
    refine wpO.val rfl (oper_fieldAddr rfl fo28_0 nz9 rfl) rfl ?_
    refine wpO.val rfl (oper_load H8 (i := 1) rfl rfl (part_one ag9 rfl)) rfl ?_
    refine wpO.val rfl (oper_fieldAddr rfl fo28_0 nz9 rfl) rfl ?_
    refine wpO.val rfl (oper_load H8 (i := 0) rfl rfl (part_one ag9 rfl)) rfl ?_
    refine wpO.val rfl (oper_bin rfl rfl binD_seql) rfl ?_
    refine wpO.val rfl (oper_move rfl) rfl ?_
    refine wpO.groupV 6 16 (.d (.bool ((a1.Tag == a2.Tag) && (a1.Key == a2.Key)))) ?_ ?_
    ·
      rcases Bool.eq_false_or_eq_true ((a1.Tag == a2.Tag)) with hB9 | hB9
      ·
        refine wpO.bool hB9 ?_
        refine wpO.val rfl (oper_fieldAddr rfl fo28_1 nz9 rfl) rfl ?_
        refine wpO.val rfl (oper_load H8 (i := 1) rfl rfl (part_one ag9 rfl)) rfl ?_
        refine wpO.val rfl (oper_fieldAddr rfl fo28_1 nz9 rfl) rfl ?_
        refine wpO.val rfl (oper_load H8 (i := 0) rfl rfl (part_one ag9 rfl)) rfl ?_
        refine wpO.val rfl (oper_bin rfl rfl binD_seql) rfl ?_
        refine wpO.val rfl (oper_pick (b := true) rfl rfl) rfl ?_
        exact wpO.nil ⟨_, rfl, (WeakE.put (WeakE.push rfl (WeakE.push rfl (WeakE.push rfl (WeakE.push rfl (WeakE.push rfl (WeakE.put (.refl _) (Less.eq (by rw [hB9])))))))) (Less.eq (by rw [hB9]; rw [Bool.true_and])))⟩
      ·
        refine wpO.bool hB9 ?_
        refine wpO.no rfl rfl ?_
        refine wpO.no rfl rfl ?_
        refine wpO.no rfl rfl ?_
        refine wpO.no rfl rfl ?_
        refine wpO.no rfl rfl ?_
        refine wpO.val rfl (oper_pick (b := false) rfl rfl) rfl ?_
        exact wpO.nil ⟨_, rfl, (WeakE.put (WeakE.push rfl (WeakE.push rfl (WeakE.push rfl (WeakE.push rfl (WeakE.push rfl (WeakE.put (.refl _) (Less.eq (by rw [hB9])))))))) (Less.eq (by rw [hB9]; rw [Bool.false_and])))⟩
    ·
      refine wpO.val rfl (oper_move rfl) rfl ?_
      refine wpO.groupV 6 23 (.d (.bool (((a1.Tag == a2.Tag) && (a1.Key == a2.Key)) && (a1.Text == a2.Text)))) ?_ ?_
      ·
        rcases Bool.eq_false_or_eq_true (((a1.Tag == a2.Tag) && (a1.Key == a2.Key))) with hB10 | hB10
        ·
          refine wpO.bool hB10 ?_
          refine wpO.val rfl (oper_fieldAddr rfl fo28_2 nz9 rfl) rfl ?_
          refine wpO.val rfl (oper_load H8 (i := 1) rfl rfl (part_one ag9 rfl)) rfl ?_
          refine wpO.val rfl (oper_fieldAddr rfl fo28_2 nz9 rfl) rfl ?_
          refine wpO.val rfl (oper_load H8 (i := 0) rfl rfl (part_one ag9 rfl)) rfl ?_
          refine wpO.val rfl (oper_bin rfl rfl binD_seql) rfl ?_
          refine wpO.val rfl (oper_pick (b := true) rfl rfl) rfl ?_
          exact wpO.nil ⟨_, rfl, (WeakE.put (WeakE.push rfl (WeakE.push rfl (WeakE.push rfl (WeakE.push rfl (WeakE.push rfl (WeakE.put (.refl _) (Less.eq (by rw [hB10])))))))) (Less.eq (by rw [hB10]; rw [Bool.true_and])))⟩
        ·
          refine wpO.bool hB10 ?_
          refine wpO.no rfl rfl ?_
          refine wpO.no rfl rfl ?_
          refine wpO.no rfl rfl ?_
          refine wpO.no rfl rfl ?_
          refine wpO.no rfl rfl ?_
          refine wpO.val rfl (oper_pick (b := false) rfl rfl) rfl ?_
          exact wpO.nil ⟨_, rfl, (WeakE.put (WeakE.push rfl (WeakE.push rfl (WeakE.push rfl (WeakE.push rfl (WeakE.push rfl (WeakE.put (.refl _) (Less.eq (by rw [hB10])))))))) (Less.eq (by rw [hB10]; rw [Bool.false_and])))⟩
      ·
        refine wpO.val rfl (oper_move rfl) rfl ?_
        obtain ⟨z12, hzz12, h⟩ := bind_some h
        refine wpO.groupV 6 30 (.d (.bool z12)) ?_ ?_
        ·
          rcases Bool.eq_false_or_eq_true ((((a1.Tag == a2.Tag) && (a1.Key == a2.Key)) && (a1.Text == a2.Text))) with hB11 | hB11
          ·
            refine wpO.bool hB11 ?_
            replace hzz12 := if_t hB11 hzz12
            refine wpO.val rfl (oper_fieldAddr rfl fo28_3 nz25 rfl) rfl ?_
            refine wpO.val rfl (oper_load H8 (i := 1) rfl rfl (part_one ag25 rfl)) rfl ?_
            refine wpO.val rfl (oper_fieldAddr rfl fo28_3 nz25 rfl) rfl ?_
            refine wpO.val rfl (oper_load H8 (i := 0) rfl rfl (part_one ag25 rfl)) rfl ?_
            obtain ⟨z13, hzz13, hzz12⟩ := bind_some hzz12
            refine wpO.ret rfl (oper_callF rfl rfl) (slices_Equal__api_Attr_api_Attr__ok E _ _ _ _ hzz13 _ _ (ArgsC.eq (ArgsC.eq .nil))) rfl ?_
            refine wpO.val rfl (oper_pick (b := true) rfl rfl) rfl ?_
            cases hzz12
            exact wpO.nil ⟨_, rfl, (WeakE.put (WeakE.push rfl (WeakE.push rfl (WeakE.push rfl (WeakE.push rfl (WeakE.push rfl (WeakE.put (.refl _) (Less.eq (by rw [hB11])))))))) (.refl _))⟩
          ·
            refine wpO.bool hB11 ?_
            refine wpO.no rfl rfl ?_
            refine wpO.no rfl rfl ?_
            refine wpO.no rfl rfl ?_
            refine wpO.no rfl rfl ?_
            refine wpO.no rfl rfl ?_
            refine wpO.val rfl (oper_pick (b := false) rfl rfl) rfl ?_
            replace hzz12 := if_f hB11 hzz12
            cases hzz12
            exact wpO.nil ⟨_, rfl, (WeakE.put (WeakE.push rfl (WeakE.push rfl (WeakE.push rfl (WeakE.push rfl (WeakE.push rfl (WeakE.put (.refl _) (Less.eq (by rw [hB11])))))))) (.refl _))⟩
        ·
          refine wpO.val rfl (oper_move rfl) rfl ?_
          obtain ⟨z15, hzz15, h⟩ := bind_some h
          refine wpO.groupV 6 37 (.d (.bool z15)) ?_ ?_
          ·
            rcases Bool.eq_false_or_eq_true (z12) with hB14 | hB14
            ·
              refine wpO.bool hB14 ?_
              replace hzz15 := if_t hB14 hzz15
              refine wpO.val rfl (oper_fieldAddr rfl fo28_4 nz26 rfl) rfl ?_
              refine wpO.val rfl (oper_load H8 (i := 1) rfl rfl (part_one ag26 rfl)) rfl ?_
              refine wpO.val rfl (oper_fieldAddr rfl fo28_4 nz26 rfl) rfl ?_
              refine wpO.val rfl (oper_load H8 (i := 0) rfl rfl (part_one ag26 rfl)) rfl ?_
              obtain ⟨z18, hzz18, hzz15⟩ := bind_some hzz15
              refine wpO.ret rfl (oper_callF rfl rfl) (SpecF.argsL (slices_EqualFunc__api_Tree__api_Tree_api_Tree_api_Tree__ok E n S7 _ _ _ _ (shape_Same n) (fun S' hk hw y16 y17 r hr => ih y16 y17 r hr _ S' (ArgsC.eq (ArgsC.eq .nil))) _ hzz18) (.cons (.refl _) (.cons (.refl _) (.cons (.refl _) .nil)))) rfl ?_
              refine wpO.val rfl (oper_pick (b := true) rfl rfl) rfl ?_
              cases hzz15
              exact wpO.nil ⟨_, rfl, (WeakE.put (WeakE.push rfl (WeakE.push rfl (WeakE.push rfl (WeakE.push rfl (WeakE.push rfl (WeakE.put (.refl _) (Less.eq (by rw [hB14])))))))) (.refl _))⟩
            ·
              refine wpO.bool hB14 ?_
              refine wpO.no rfl rfl ?_
              refine wpO.no rfl rfl ?_
              refine wpO.no rfl rfl ?_
              refine wpO.no rfl rfl ?_
              refine wpO.no rfl rfl ?_
              refine wpO.val rfl (oper_pick (b := false) rfl rfl) rfl ?_
              replace hzz15 := if_f hB14 hzz15
              cases hzz15
              exact wpO.nil ⟨_, rfl, (WeakE.put (WeakE.push rfl (WeakE.push rfl (WeakE.push rfl (WeakE.push rfl (WeakE.push rfl (WeakE.put (.refl _) (Less.eq (by rw [hB14])))))))) (.refl _))⟩
          ·
            refine wpO.val rfl (oper_assign rfl) rfl ?_
            refine wpO.nil ?_
            have hr := Option.some.inj h
            subst hr
            exact WpC.ret ⟨_, rfl, rfl, end1 (ArgsC.eq .nil)⟩
end
end Pr
end Go.Ev


namespace Go.Ev
namespace Pr
set_option linter.unusedVariables false
set_option linter.unusedSimpArgs false
open Go.Proofs
section
variable {R : ObjR} (E : PrOk R)
include E
set_option maxHeartbeats 4000000 in
theorem porticolaw13_ShapeAdds_ok (n : Nat) (a1 : K_Wood) (a2 : K_Wood) (r : Bool) (h : porticolaw13_ShapeAdds n a1 a2 = some r) : SpecC R cfg.P 5 [(encK_Wood a1), (encK_Wood a2)] (.d (.bool r)) := by
  unfold porticolaw13_ShapeAdds at h
  refine SpecC.of_wp E.obj.toObjOk (C := cfg) Tryd.func5 rfl nm5 rfl ?_
  have H0 : Has pureSt pureSt [] := Has.pure
  refine WpC.seq ?_
  refine WpC.region E.obj rfl ?_
  refine wpO.box H0 rfl rfl rfl (K_Wood.cellsA _) rfl (fun b3 S4 H5 => ?_)
  refine wpO.box H5 rfl rfl rfl (K_Wood.cellsA _) rfl (fun b6 S7 H8 => ?_)
  refine wpO.val rfl (oper_assign rfl) rfl ?_
  refine wpO.nil ?_
  refine WpC.seq ?_
  obtain ⟨z10, hzz10, h⟩ := bind_some h
  obtain ⟨z11, hzz11, h⟩ := bind_some h
  have hT9 : ∀ x ∈ ([Fact.pure 6 [(Ev.mkAgg [(.d (.sl ((a1.Under).map (D.int .i64)) false)), (.d (.sl ((a1.Kinds).map (D.int .i64)) false)), (.d (.sl ((a1.Keys).map (D.int .i64)) false)), (.d (.sl ((a1.Texts).map (D.int .i64)) false))])] (.d (encTree z10)), Fact.pure 6 [(Ev.mkAgg [(.d (.sl ((a2.Under).map (D.int .i64)) false)), (.d (.sl ((a2.Kinds).map (D.int .i64)) false)), (.d (.sl ((a2.Keys).map (D.int .i64)) false)), (.d (.sl ((a2.Texts).map (D.int .i64)) false))])] (.d (encTree z11))] : List Fact), x.ok R cfg.P := (facts_cons (SpecC.fact (porticokeep_Wood_Tree_ok E _ _ _ hzz10) (ArgsC.seq (ArgsC.less_agg (d := encK_Wood a1) (CellsC.eq rfl (CellsC.eq rfl (CellsC.eq rfl (CellsC.eq rfl .nil)))) ((K_Wood.eq _).trans rfl)) .nil)) (facts_cons (SpecC.fact (porticokeep_Wood_Tree_ok E _ _ _ hzz11) (ArgsC.seq (ArgsC.less_agg (d := encK_Wood a2) (CellsC.eq rfl (CellsC.eq rfl (CellsC.eq rfl (CellsC.eq rfl .nil)))) ((K_Wood.eq _).trans rfl)) .nil)) facts_nil))
  have hpT9 := pureT hT9 rfl
  refine WpC.drawn2 E.obj hmix hT9 (by kernel_rfl) [b3, b6] [1, 0, 1, 0, 3, 3, 4, 4] 4 5 [0, 1, 2, 3, 4, 5, 6, 7] [0, 1, 2, 3, 5, 4, 6, 7] (by kernel_rfl) (fun e S => ∃ b12 b15, WeakE [(0, (.d (encK_Wood a1))), (1, (.d (encK_Wood a2))), (2, (.ptr b3 0 0)), (3, (.ptr b6 0 0)), (4, (.d (.bool false))), (5, (.ptr b12 0 0)), (6, (.ptr b15 0 0)), (9, (Ev.mkAgg [(.d (.sl ((a1.Under).map (D.int .i64)) false)), (.d (.sl ((a1.Kinds).map (D.int .i64)) false)), (.d (.sl ((a1.Keys).map (D.int .i64)) false)), (.d (.sl ((a1.Texts).map (D.int .i64)) false))])), (10, (.d (encTree z10))), (11, (Ev.mkAgg [(.d (.sl ((a2.Under).map (D.int .i64)) false)), (.d (.sl ((a2.Kinds).map (D.int .i64)) false)), (.d (.sl ((a2.Keys).map (D.int .i64)) false)), (.d (.sl ((a2.Texts).map (D.int .i64)) false))])), (12, (.d (encTree z11)))] e ∧ Has pureSt S [.box b15 [(.d (.str z11.Tag)), (.d (.str z11.Key)), (.d (.str z11.Text)), (.d (.sl ((z11.Attrs).map encAttr) false)), (.d (.sl ((z11.Kids).map encTree) false))], .box b12 [(.d (.str z10.Tag)), (.d (.str z10.Key)), (.d (.str z10.Text)), (.d (.sl ((z10.Attrs).map encAttr) false)), (.d (.sl ((z10.Kids).map encTree) false))], .box b6 [(.d (.sl ((a2.Under).map (D.int .i64)) false)), (.d (.sl ((a2.Kinds).map (D.int .i64)) false)), (.d (.sl ((a2.Keys).map (D.int .i64)) false)), (.d (.sl ((a2.Texts).map (D.int .i64)) false))], .box b3 [(.d (.sl ((a1.Under).map (D.int .i64)) false)), (.d (.sl ((a1.Kinds).map (D.int .i64)) false)), (.d (.sl ((a1.Keys).map (D.int .i64)) false)), (.d (.sl ((a1.Texts).map (D.int .i64)) false))]]) ?_ ?_ ?_
  ·
    refine wpD.read rfl rfl (idsIn (L := [b3]) rfl (by simp)) rfl (oper_load H8 (i := 1) rfl rfl (part_agg ag24 sz24 rfl)) rfl ?_
    refine wpD.ret hpT9 rfl rfl (oper_callF rfl rfl) (lookT' 0 rfl rfl (by
        intro a' v' hm ha
        simp only [List.mem_cons, List.not_mem_nil, or_false, Fact.pure.injEq] at hm
        rcases hm with ⟨hf0, rfl, rfl⟩ | ⟨hf1, rfl, rfl⟩
        · rfl
        · obtain ⟨he0, ha⟩ := List.cons.inj ha; have hx0 := K_Wood.inj a2 a1 (AV.d.inj he0); have hq := hzz11; rw [hx0] at hq; rw [hzz10] at hq; rw [Option.some.inj hq])) (ArgsC.isSome (ArgsC.seq (ArgsC.less_agg (d := encK_Wood a1) (CellsC.eq rfl (CellsC.eq rfl (CellsC.eq rfl (CellsC.eq rfl .nil)))) ((K_Wood.eq _).trans rfl)) .nil)) rfl rfl rfl rfl ?_
    refine wpD.read rfl rfl (idsIn (L := [b6]) rfl (by simp)) rfl (oper_load H8 (i := 0) rfl rfl (part_agg ag24 sz24 rfl)) rfl ?_
    refine wpD.ret hpT9 rfl rfl (oper_callF rfl rfl) (lookT' 1 rfl rfl (by
        intro a' v' hm ha
        simp only [List.mem_cons, List.not_mem_nil, or_false, Fact.pure.injEq] at hm
        rcases hm with ⟨hf0, rfl, rfl⟩ | ⟨hf1, rfl, rfl⟩
        · obtain ⟨he0, ha⟩ := List.cons.inj ha; have hx0 := K_Wood.inj a1 a2 (AV.d.inj he0); have hq := hzz10; rw [hx0] at hq; rw [hzz11] at hq; rw [Option.some.inj hq]
        · rfl)) (ArgsC.isSome (ArgsC.seq (ArgsC.less_agg (d := encK_Wood a2) (CellsC.eq rfl (CellsC.eq rfl (CellsC.eq rfl (CellsC.eq rfl .nil)))) ((K_Wood.eq _).trans rfl)) .nil)) rfl rfl rfl rfl ?_
    refine wpD.alloc H8 rfl rfl ob28 zo28 rfl rfl (fun b12 S13 H14 => ?_)
    refine wpD.alloc H14 rfl rfl ob28 zo28 rfl rfl (fun b15 S16 H17 => ?_)
    refine wpD.store4 H17 (by
        intro z hz
        simp only [List.mem_cons, List.not_mem_nil, or_false] at hz
        rcases hz with rfl | rfl
        · exact H17.boxNe (i := 3) (j := 1) (by decide) rfl rfl
        · exact H17.boxNe (i := 2) (j := 1) (by decide) rfl rfl) (j := 1) rfl rfl rfl rfl rfl (Tree.cellsA _) rfl sz28 rfl as28 rfl rfl rfl (fun S18 H19 => ?_)
    refine wpD.store4 H19 (by
        intro z hz
        simp only [List.mem_cons, List.not_mem_nil, or_false] at hz
        rcases hz with rfl | rfl
        · exact H19.boxNe (i := 3) (j := 0) (by decide) rfl rfl
        · exact H19.boxNe (i := 2) (j := 0) (by decide) rfl rfl) (j := 0) rfl rfl rfl rfl rfl (Tree.cellsA _) rfl sz28 rfl as28 rfl rfl rfl (fun S20 H21 => ?_)
    exact ⟨b12, b15, (WeakE.cons rfl (.refl _) (WeakE.cons rfl (.refl _) (WeakE.cons rfl (.refl _) (WeakE.cons rfl (.refl _) (WeakE.cons rfl (.refl _) (WeakE.cons rfl (.refl _) (WeakE.cons rfl (.refl _) (WeakE.cons rfl (.refl _) (WeakE.cons rfl (.refl _) (WeakE.cons rfl (.refl _) (WeakE.cons rfl (.refl _) WeakE.nil))))))))))), H21⟩
  ·
    refine wpD.read rfl rfl (idsIn (L := [b3]) rfl (by simp)) rfl (oper_load H8 (i := 1) rfl rfl (part_agg ag24 sz24 rfl)) rfl ?_
    refine wpD.ret hpT9 rfl rfl (oper_callF rfl rfl) (lookT' 0 rfl rfl (by
        intro a' v' hm ha
        simp only [List.mem_cons, List.not_mem_nil, or_false, Fact.pure.injEq] at hm
        rcases hm with ⟨hf0, rfl, rfl⟩ | ⟨hf1, rfl, rfl⟩
        · rfl
        · obtain ⟨he0, ha⟩ := List.cons.inj ha; have hx0 := K_Wood.inj a2 a1 (AV.d.inj he0); have hq := hzz11; rw [hx0] at hq; rw [hzz10] at hq; rw [Option.some.inj hq])) (ArgsC.isSome (ArgsC.seq (ArgsC.less_agg (d := encK_Wood a1) (CellsC.eq rfl (CellsC.eq rfl (CellsC.eq rfl (CellsC.eq rfl .nil)))) ((K_Wood.eq _).trans rfl)) .nil)) rfl rfl rfl rfl ?_
    refine wpD.read rfl rfl (idsIn (L := [b6]) rfl (by simp)) rfl (oper_load H8 (i := 0) rfl rfl (part_agg ag24 sz24 rfl)) rfl ?_
    refine wpD.ret hpT9 rfl rfl (oper_callF rfl rfl) (lookT' 1 rfl rfl (by
        intro a' v' hm ha
        simp only [List.mem_cons, List.not_mem_nil, or_false, Fact.pure.injEq] at hm
        rcases hm with ⟨hf0, rfl, rfl⟩ | ⟨hf1, rfl, rfl⟩
        · obtain ⟨he0, ha⟩ := List.cons.inj ha; have hx0 := K_Wood.inj a1 a2 (AV.d.inj he0); have hq := hzz10; rw [hx0] at hq; rw [hzz11] at hq; rw [Option.some.inj hq]
        · rfl)) (ArgsC.isSome (ArgsC.seq (ArgsC.less_agg (d := encK_Wood a2) (CellsC.eq rfl (CellsC.eq rfl (CellsC.eq rfl (CellsC.eq rfl .nil)))) ((K_Wood.eq _).trans rfl)) .nil)) rfl rfl rfl rfl ?_
    refine wpD.alloc H8 rfl rfl ob28 zo28 rfl rfl (fun b15 S13 H22 => ?_)
    refine wpD.alloc H22 rfl rfl ob28 zo28 rfl rfl (fun b12 S16 H23 => ?_)
    have H14 : Has pureSt S16 [.box b12 [(.d (.str [])), (.d (.str [])), (.d (.str [])), (.d .nils), (.d .nils)], .box b6 [(.d (.sl ((a2.Under).map (D.int .i64)) false)), (.d (.sl ((a2.Kinds).map (D.int .i64)) false)), (.d (.sl ((a2.Keys).map (D.int .i64)) false)), (.d (.sl ((a2.Texts).map (D.int .i64)) false))], .box b3 [(.d (.sl ((a1.Under).map (D.int .i64)) false)), (.d (.sl ((a1.Kinds).map (D.int .i64)) false)), (.d (.sl ((a1.Keys).map (D.int .i64)) false)), (.d (.sl ((a1.Texts).map (D.int .i64)) false))]] := H23.sel [0, 2, 3] (by decide) rfl
    have H17 : Has pureSt S16 [.box b15 [(.d (.str [])), (.d (.str [])), (.d (.str [])), (.d .nils), (.d .nils)], .box b12 [(.d (.str [])), (.d (.str [])), (.d (.str [])), (.d .nils), (.d .nils)], .box b6 [(.d (.sl ((a2.Under).map (D.int .i64)) false)), (.d (.sl ((a2.Kinds).map (D.int .i64)) false)), (.d (.sl ((a2.Keys).map (D.int .i64)) false)), (.d (.sl ((a2.Texts).map (D.int .i64)) false))], .box b3 [(.d (.sl ((a1.Under).map (D.int .i64)) false)), (.d (.sl ((a1.Kinds).map (D.int .i64)) false)), (.d (.sl ((a1.Keys).map (D.int .i64)) false)), (.d (.sl ((a1.Texts).map (D.int .i64)) false))]] := H23.sel [1, 0, 2, 3] (by decide) rfl
    refine wpD.store4 H17 (by
        intro z hz
        simp only [List.mem_cons, List.not_mem_nil, or_false] at hz
        rcases hz with rfl | rfl
        · exact H17.boxNe (i := 3) (j := 1) (by decide) rfl rfl
        · exact H17.boxNe (i := 2) (j := 1) (by decide) rfl rfl) (j := 1) rfl rfl rfl rfl rfl (Tree.cellsA _) rfl sz28 rfl as28 rfl rfl rfl (fun S18 H19 => ?_)
    refine wpD.store4 H19 (by
        intro z hz
        simp only [List.mem_cons, List.not_mem_nil, or_false] at hz
        rcases hz with rfl | rfl
        · exact H19.boxNe (i := 3) (j := 0) (by decide) rfl rfl
        · exact H19.boxNe (i := 2) (j := 0) (by decide) rfl rfl) (j := 0) rfl rfl rfl rfl rfl (Tree.cellsA _) rfl sz28 rfl as28 rfl rfl rfl (fun S20 H21 => ?_)
    exact ⟨b12, b15, (WeakE.cons rfl (.refl _) (WeakE.cons rfl (.refl _) (WeakE.cons rfl (.refl _) (WeakE.cons rfl (.refl _) (WeakE.cons rfl (.refl _) (WeakE.cons rfl (.refl _) (WeakE.cons rfl (.refl _) (WeakE.cons rfl (.refl _) (WeakE.cons rfl (.refl _) (WeakE.cons rfl (.refl _) (WeakE.cons rfl (.refl _) WeakE.nil))))))))))), H21⟩
  rintro e24 S25 ⟨b12, b15, hw26, H27⟩
  refine WpC.weak hw26 ?_
  refine WpC.seq ?_
  refine WpC.region E.obj rfl ?_
  refine wpO.val rfl (oper_load H27 (i := 1) rfl rfl (part_agg ag28 sz28 rfl)) rfl ?_
  refine wpO.less (Less.agg' (d := encTree z10) (CellsC.eq rfl (CellsC.eq rfl (CellsC.eq rfl (CellsC.eq rfl (CellsC.eq rfl .nil))))) ((Tree.eq _).trans rfl)) ?_
  refine wpO.val rfl (oper_load H27 (i := 0) rfl rfl (part_agg ag28 sz28 rfl)) rfl ?_
  refine wpO.less (Less.agg' (d := encTree z11) (CellsC.eq rfl (CellsC.eq rfl (CellsC.eq rfl (CellsC.eq rfl (CellsC.eq rfl .nil))))) ((Tree.eq _).trans rfl)) ?_
  refine wpO.val rfl (oper_buildSlice (vs := [(.d (encTree z10)), (.d (encTree z11))]) (ds := [(encTree z10), (encTree z11)]) rw26 el26 ag28 zo28 sz28 rfl (by decide) (.cons rfl (Tree.len _) (.cons rfl (Tree.len _) .nil)) rfl (by intro d hd; simp only [List.mem_cons, List.not_mem_nil, or_false] at hd; rcases hd with rfl | rfl <;> exact Tree.agg _) rfl) rfl ?_
  refine wpO.val rfl (oper_build (cs := [(.d (.str [120])), (.d (.str [])), (.d (.str [])), (.d .nils), (.d (.sl (([z10, z11]).map encTree) true))]) zo28 rfl (place_struct28) (fill1 rfl rfl rfl rfl (fill1 rfl rfl rfl rfl rfl))) rfl ?_
  refine wpO.less (Less.agg' (d := encTree (Tree.mk [120] [] [] [] [z10, z11])) (CellsC.eq rfl (CellsC.eq rfl (CellsC.eq rfl (CellsC.consW rfl (.nils false) rfl rfl (CellsC.consW rfl (.untight _ _) rfl rfl .nil))))) ((Tree.eq _).trans rfl)) ?_
  refine wpO.alloc H27 rfl ob28 zo28 rfl rfl (fun b29 S30 H31 => ?_)
  refine wpO.store H31 (i := 0) rfl rfl rfl rfl (Tree.cellsA _) rfl sz28 rfl as28 rfl rfl rfl (fun S32 H33 => ?_)
  refine wpO.nil ?_
  refine WpC.seq ?_
  refine WpC.join (B := pureSt) (α := Bool) (fun a => porticolaw13_ShapeAdds_j37 n z10 z11 a = some r) (fun a => [(5, (.ptr b12 0 0)), (7, (.ptr b29 0 0)), (46, (.d (.bool a)))]) (fun a => [.box b29 [(.d (.str (Tree.mk [120] [] [] [] [z10, z11]).Tag)), (.d (.str (Tree.mk [120] [] [] [] [z10, z11]).Key)), (.d (.str (Tree.mk [120] [] [] [] [z10, z11]).Text)), (.d (.sl (((Tree.mk [120] [] [] [] [z10, z11]).Attrs).map encAttr) false)), (.d (.sl (((Tree.mk [120] [] [] [] [z10, z11]).Kids).map encTree) false))], .box b12 [(.d (.str z10.Tag)), (.d (.str z10.Key)), (.d (.str z10.Text)), (.d (.sl ((z10.Attrs).map encAttr) false)), (.d (.sl ((z10.Kids).map encTree) false))]]) ?_ ?_
  ·
    intro x36 S34 H35 h
    replace h : porticolaw13_ShapeAdds_j37 n z10 z11 x36 = some r := h
    replace H35 : Has pureSt S34 [.box b29 [(.d (.str (Tree.mk [120] [] [] [] [z10, z11]).Tag)), (.d (.str (Tree.mk [120] [] [] [] [z10, z11]).Key)), (.d (.str (Tree.mk [120] [] [] [] [z10, z11]).Text)), (.d (.sl (((Tree.mk [120] [] [] [] [z10, z11]).Attrs).map encAttr) false)), (.d (.sl (((Tree.mk [120] [] [] [] [z10, z11]).Kids).map encTree) false))], .box b12 [(.d (.str z10.Tag)), (.d (.str z10.Key)), (.d (.str z10.Text)), (.d (.sl ((z10.Attrs).map encAttr) false)), (.d (.sl ((z10.Kids).map encTree) false))]] := H35
    unfold porticolaw13_ShapeAdds_j37 at h
    refine WpC.cond rfl (fun hb38 => ?_) (fun hb38 => ?_)
    ·
      replace h := if_t hb38 h
      refine WpC.seq ?_
      refine WpC.region E.obj rfl ?_
      refine wpO.val rfl (oper_assign rfl) rfl ?_
      refine wpO.nil ?_
      have hr := Option.some.inj h
      subst hr
      exact WpC.ret ⟨_, rfl, rfl, end1 (ArgsC.eq .nil)⟩
    ·
      replace h := if_f hb38 h
      refine WpC.skip ?_
      refine WpC.seq ?_
      refine WpC.region E.obj rfl ?_
      refine wpO.val rfl (oper_load H35 (i := 1) rfl rfl (part_agg ag28 sz28 rfl)) rfl ?_
      refine wpO.less (Less.agg' (d := encTree z10) (CellsC.eq rfl (CellsC.eq rfl (CellsC.eq rfl (CellsC.eq rfl (CellsC.eq rfl .nil))))) ((Tree.eq _).trans rfl)) ?_
      refine wpO.alloc H35 rfl ob28 zo28 rfl rfl (fun b39 S40 H41 => ?_)
      refine wpO.store H41 (i := 0) rfl rfl rfl rfl (Tree.cellsA _) rfl sz28 rfl as28 rfl rfl rfl (fun S42 H43 => ?_)
      refine wpO.nil ?_
      refine WpC.seq ?_
      refine WpC.block ?_
      refine WpL.start (B := pureSt) (α := Str × Str × Str × (List Attr) × (List Tree)) (fun k a => porticolaw13_ShapeAdds_l60 n z10 z11 k a.1 a.2.1 a.2.2.1 a.2.2.2.1 a.2.2.2.2 = some r) (fun a => [(7, (.ptr b29 0 0)), (8, (.ptr b39 0 0))]) (fun a => [.box b39 [(.d (.str a.1)), (.d (.str a.2.1)), (.d (.str a.2.2.1)), (.d (.sl ((a.2.2.2.1).map encAttr) false)), (.d (.sl ((a.2.2.2.2).map encTree) false))], .box b29 [(.d (.str (Tree.mk [120] [] [] [] [z10, z11]).Tag)), (.d (.str (Tree.mk [120] [] [] [] [z10, z11]).Key)), (.d (.str (Tree.mk [120] [] [] [] [z10, z11]).Text)), (.d (.sl (((Tree.mk [120] [] [] [] [z10, z11]).Attrs).map encAttr) false)), (.d (.sl (((Tree.mk [120] [] [] [] [z10, z11]).Kids).map encTree) false))]]) ?_ ?_ n ⟨⟨z10.Tag, z10.Key, z10.Text, z10.Attrs, z10.Kids⟩, _, _, S42, .refl _ _, .refl _, (WeakE.cons rfl (.refl _) (WeakE.cons rfl (.refl _) WeakE.nil)), H43.sel [0, 1] (by decide) rfl, h⟩
      · intro a h; simp [porticolaw13_ShapeAdds_l60] at h
      ·
        intro k60 a S53 H54 h
        obtain ⟨x55, x56, x57, x58, x59⟩ := a
        replace h : porticolaw13_ShapeAdds_l60 n z10 z11 (k60 + 1) x55 x56 x57 x58 x59 = some r := h
        replace H54 : Has pureSt S53 [.box b39 [(.d (.str x55)), (.d (.str x56)), (.d (.str x57)), (.d (.sl ((x58).map encAttr) false)), (.d (.sl ((x59).map encTree) false))], .box b29 [(.d (.str (Tree.mk [120] [] [] [] [z10, z11]).Tag)), (.d (.str (Tree.mk [120] [] [] [] [z10, z11]).Key)), (.d (.str (Tree.mk [120] [] [] [] [z10, z11]).Text)), (.d (.sl (((Tree.mk [120] [] [] [] [z10, z11]).Attrs).map encAttr) false)), (.d (.sl (((Tree.mk [120] [] [] [] [z10, z11]).Kids).map encTree) false))]] := H54
        unfold porticolaw13_ShapeAdds_l60 at h
        refine WpC.seq ?_
        refine WpC.seq ?_
        refine WpC.region E.obj rfl ?_
        refine wpO.val rfl (oper_load H54 (i := 0) rfl rfl (part_agg ag28 sz28 rfl)) rfl ?_
        refine wpO.less (Less.agg' (d := encTree (Tree.mk x55 x56 x57 x58 x59)) (CellsC.eq rfl (CellsC.eq rfl (CellsC.eq rfl (CellsC.eq rfl (CellsC.eq rfl .nil))))) ((Tree.eq _).trans rfl)) ?_
        obtain ⟨z61, hzz61, h⟩ := bind_some h
        refine wpO.ret rfl (oper_callF rfl rfl) (shape_Deep_ok E _ _ _ hzz61 _ _ (ArgsC.eq .nil)) rfl ?_
        refine wpO.val rfl (oper_bin rfl rfl binD_lss) rfl ?_
        refine wpO.val rfl (oper_move rfl) rfl ?_
        obtain ⟨z63, hzz63, h⟩ := bind_some h
        refine wpO.groupV 4 55 (.d (.bool z63)) ?_ ?_
        ·
          rcases Bool.eq_false_or_eq_true ((decide (z61 < 12))) with hB62 | hB62
          ·
            refine wpO.bool hB62 ?_
            replace hzz63 := if_t hB62 hzz63
            refine wpO.val rfl (oper_load H54 (i := 0) rfl rfl (part_agg ag28 sz28 rfl)) rfl ?_
            refine wpO.less (Less.agg' (d := encTree (Tree.mk x55 x56 x57 x58 x59)) (CellsC.eq rfl (CellsC.eq rfl (CellsC.eq rfl (CellsC.eq rfl (CellsC.eq rfl .nil))))) ((Tree.eq _).trans rfl)) ?_
            obtain ⟨z64, hzz64, hzz63⟩ := bind_some hzz63
            refine wpO.ret rfl (oper_callF rfl rfl) (shape_Count_ok E _ _ _ hzz64 _ _ (ArgsC.eq .nil)) rfl ?_
            refine wpO.val rfl (oper_bin rfl rfl binD_lss) rfl ?_
            refine wpO.val rfl (oper_pick (b := true) rfl rfl) rfl ?_
            cases hzz63
            exact wpO.nil ⟨_, rfl, (WeakE.put (WeakE.push rfl (WeakE.push rfl (WeakE.push rfl (WeakE.put (.refl _) (Less.eq (by rw [hB62])))))) (.refl _))⟩
          ·
            refine wpO.bool hB62 ?_
            refine wpO.no rfl rfl ?_
            refine wpO.no rfl rfl ?_
            refine wpO.no rfl rfl ?_
            refine wpO.val rfl (oper_pick (b := false) rfl rfl) rfl ?_
            replace hzz63 := if_f hB62 hzz63
            cases hzz63
            exact wpO.nil ⟨_, rfl, (WeakE.put (WeakE.push rfl (WeakE.push rfl (WeakE.push rfl (WeakE.put (.refl _) (Less.eq (by rw [hB62])))))) (.refl _))⟩
        ·
          refine wpO.nil ?_
          refine WpC.cond rfl (fun hb65 => ?_) (fun hb65 => ?_)
          ·
            replace h := if_t hb65 h
            refine WpC.skip ?_
            refine WpC.block ?_
            refine WpC.region E.obj rfl ?_
            refine wpO.val rfl (oper_load H54 (i := 0) rfl rfl (part_agg ag28 sz28 rfl)) rfl ?_
            refine wpO.less (Less.agg' (d := encTree (Tree.mk x55 x56 x57 x58 x59)) (CellsC.eq rfl (CellsC.eq rfl (CellsC.eq rfl (CellsC.eq rfl (CellsC.eq rfl .nil))))) ((Tree.eq _).trans rfl)) ?_
            refine wpO.val rfl (oper_buildSlice (vs := [(.d (encTree (Tree.mk x55 x56 x57 x58 x59)))]) (ds := [(encTree (Tree.mk x55 x56 x57 x58 x59))]) rw26 el26 ag28 zo28 sz28 rfl (by decide) (.cons rfl (Tree.len _) .nil) rfl (by intro d hd; simp only [List.mem_cons, List.not_mem_nil, or_false] at hd; rcases hd with rfl <;> exact Tree.agg _) rfl) rfl ?_
            refine wpO.val rfl (oper_build (cs := [(.d (.str [121])), (.d (.str [])), (.d (.str [])), (.d .nils), (.d (.sl (([(Tree.mk x55 x56 x57 x58 x59)]).map encTree) true))]) zo28 rfl (place_struct28) (fill1 rfl rfl rfl rfl (fill1 rfl rfl rfl rfl rfl))) rfl ?_
            refine wpO.less (Less.agg' (d := encTree (Tree.mk [121] [] [] [] [(Tree.mk x55 x56 x57 x58 x59)])) (CellsC.eq rfl (CellsC.eq rfl (CellsC.eq rfl (CellsC.consW rfl (.nils false) rfl rfl (CellsC.consW rfl (.untight _ _) rfl rfl .nil))))) ((Tree.eq _).trans rfl)) ?_
            refine wpO.store H54 (i := 0) rfl rfl rfl rfl (Tree.cellsA _) rfl sz28 rfl as28 rfl rfl rfl (fun S66 H67 => ?_)
            refine wpO.nil ?_
            exact ⟨⟨(Tree.mk [121] [] [] [] [(Tree.mk x55 x56 x57 x58 x59)]).Tag, (Tree.mk [121] [] [] [] [(Tree.mk x55 x56 x57 x58 x59)]).Key, (Tree.mk [121] [] [] [] [(Tree.mk x55 x56 x57 x58 x59)]).Text, (Tree.mk [121] [] [] [] [(Tree.mk x55 x56 x57 x58 x59)]).Attrs, (Tree.mk [121] [] [] [] [(Tree.mk x55 x56 x57 x58 x59)]).Kids⟩, _, _, S66, .refl _ _, .refl _, (WeakE.cons rfl (.refl _) (WeakE.cons rfl (.refl _) WeakE.nil)), H67.sel [0, 1] (by decide) rfl, h⟩
          ·
            replace h := if_f hb65 h
            refine WpC.exit ?_
            refine WpC.seq ?_
            refine WpC.seq ?_
            refine WpC.region E.obj rfl ?_
            refine wpO.val rfl (oper_load H54 (i := 0) rfl rfl (part_agg ag28 sz28 rfl)) rfl ?_
            refine wpO.less (Less.agg' (d := encTree (Tree.mk x55 x56 x57 x58 x59)) (CellsC.eq rfl (CellsC.eq rfl (CellsC.eq rfl (CellsC.eq rfl (CellsC.eq rfl .nil))))) ((Tree.eq _).trans rfl)) ?_
            obtain ⟨z68, hzz68, h⟩ := bind_some h
            refine wpO.ret rfl (oper_callF rfl rfl) (shape_Right_ok E _ _ _ hzz68 _ _ (ArgsC.eq .nil)) rfl ?_
            refine wpO.val rfl (oper_not rfl) rfl ?_
            refine wpO.val rfl (oper_move rfl) rfl ?_
            obtain ⟨z70, hzz70, h⟩ := bind_some h
            refine wpO.groupV 4 66 (.d (.bool z70)) ?_ ?_
            ·
              rcases Bool.eq_false_or_eq_true ((!z68)) with hB69 | hB69
              ·
                refine wpO.bool hB69 ?_
                refine wpO.no rfl rfl ?_
                refine wpO.no rfl rfl ?_
                refine wpO.no rfl rfl ?_
                refine wpO.val rfl (oper_pick (b := true) rfl rfl) rfl ?_
                replace hzz70 := if_t hB69 hzz70
                cases hzz70
                exact wpO.nil ⟨_, rfl, (WeakE.put (WeakE.push rfl (WeakE.push rfl (WeakE.push rfl (WeakE.put (.refl _) (Less.eq (by rw [hB69])))))) (.refl _))⟩
              ·
                refine wpO.bool hB69 ?_
                replace hzz70 := if_f hB69 hzz70
                refine wpO.val rfl (oper_load H54 (i := 1) rfl rfl (part_agg ag28 sz28 rfl)) rfl ?_
                refine wpO.less (Less.agg' (d := encTree (Tree.mk [120] [] [] [] [z10, z11])) (CellsC.eq rfl (CellsC.eq rfl (CellsC.eq rfl (CellsC.eq rfl (CellsC.eq rfl .nil))))) ((Tree.eq _).trans rfl)) ?_
                obtain ⟨z71, hzz71, hzz70⟩ := bind_some hzz70
                refine wpO.ret rfl (oper_callF rfl rfl) (shape_Right_ok E _ _ _ hzz71 _ _ (ArgsC.eq .nil)) rfl ?_
                refine wpO.val rfl (oper_not rfl) rfl ?_
                refine wpO.val rfl (oper_pick (b := false) rfl rfl) rfl ?_
                cases hzz70
                exact wpO.nil ⟨_, rfl, (WeakE.put (WeakE.push rfl (WeakE.push rfl (WeakE.push rfl (WeakE.put (.refl _) (Less.eq (by rw [hB69])))))) (.refl _))⟩
            ·
              refine wpO.nil ?_
              refine WpC.cond rfl (fun hb72 => ?_) (fun hb72 => ?_)
              ·
                replace h := if_t hb72 h
                refine WpC.seq ?_
                refine WpC.region E.obj rfl ?_
                refine wpO.val rfl (oper_assign rfl) rfl ?_
                refine wpO.nil ?_
                have hr := Option.some.inj h
                subst hr
                exact WpC.ret ⟨_, rfl, rfl, end1 (ArgsC.eq .nil)⟩
              ·
                replace h := if_f hb72 h
                refine WpC.skip ?_
                refine WpC.seq ?_
                refine WpC.seq ?_
                refine WpC.region E.obj rfl ?_
                refine wpO.val rfl (oper_load H54 (i := 0) rfl rfl (part_agg ag28 sz28 rfl)) rfl ?_
                refine wpO.less (Less.agg' (d := encTree (Tree.mk x55 x56 x57 x58 x59)) (CellsC.eq rfl (CellsC.eq rfl (CellsC.eq rfl (CellsC.eq rfl (CellsC.eq rfl .nil))))) ((Tree.eq _).trans rfl)) ?_
                obtain ⟨z73, hzz73, h⟩ := bind_some h
                refine wpO.ret rfl (oper_callF rfl rfl) (shape_Deep_ok E _ _ _ hzz73 _ _ (ArgsC.eq .nil)) rfl ?_
                refine wpO.val rfl (oper_bin rfl rfl binD_eql) rfl ?_
                refine wpO.val rfl (oper_move rfl) rfl ?_
                obtain ⟨z75, hzz75, h⟩ := bind_some h
                refine wpO.groupV 5 75 (.d (.bool z75)) ?_ ?_
                ·
                  rcases Bool.eq_false_or_eq_true ((z73 == 12)) with hB74 | hB74
                  ·
                    refine wpO.bool hB74 ?_
                    replace hzz75 := if_t hB74 hzz75
                    refine wpO.val rfl (oper_load H54 (i := 0) rfl rfl (part_agg ag28 sz28 rfl)) rfl ?_
                    refine wpO.less (Less.agg' (d := encTree (Tree.mk x55 x56 x57 x58 x59)) (CellsC.eq rfl (CellsC.eq rfl (CellsC.eq rfl (CellsC.eq rfl (CellsC.eq rfl .nil))))) ((Tree.eq _).trans rfl)) ?_
                    refine wpO.val rfl (oper_buildSlice (vs := [(.d (encTree (Tree.mk x55 x56 x57 x58 x59)))]) (ds := [(encTree (Tree.mk x55 x56 x57 x58 x59))]) rw26 el26 ag28 zo28 sz28 rfl (by decide) (.cons rfl (Tree.len _) .nil) rfl (by intro d hd; simp only [List.mem_cons, List.not_mem_nil, or_false] at hd; rcases hd with rfl <;> exact Tree.agg _) rfl) rfl ?_
                    refine wpO.val rfl (oper_build (cs := [(.d (.str [121])), (.d (.str [])), (.d (.str [])), (.d .nils), (.d (.sl (([(Tree.mk x55 x56 x57 x58 x59)]).map encTree) true))]) zo28 rfl (place_struct28) (fill1 rfl rfl rfl rfl (fill1 rfl rfl rfl rfl rfl))) rfl ?_
                    refine wpO.less (Less.agg' (d := encTree (Tree.mk [121] [] [] [] [(Tree.mk x55 x56 x57 x58 x59)])) (CellsC.eq rfl (CellsC.eq rfl (CellsC.eq rfl (CellsC.consW rfl (.nils false) rfl rfl (CellsC.consW rfl (.untight _ _) rfl rfl .nil))))) ((Tree.eq _).trans rfl)) ?_
                    obtain ⟨z76, hzz76, hzz75⟩ := bind_some hzz75
                    refine wpO.ret rfl (oper_callF rfl rfl) (shape_Right_ok E _ _ _ hzz76 _ _ (ArgsC.eq .nil)) rfl ?_
                    refine wpO.val rfl (oper_pick (b := true) rfl rfl) rfl ?_
                    cases hzz75
                    exact wpO.nil ⟨_, rfl, (WeakE.put (WeakE.push rfl (WeakE.push rfl (WeakE.push rfl (WeakE.push rfl (WeakE.put (.refl _) (Less.eq (by rw [hB74]))))))) (.refl _))⟩
                  ·
                    refine wpO.bool hB74 ?_
                    refine wpO.no rfl rfl ?_
                    refine wpO.no rfl rfl ?_
                    refine wpO.no rfl rfl ?_
                    refine wpO.no rfl rfl ?_
                    refine wpO.val rfl (oper_pick (b := false) rfl rfl) rfl ?_
                    replace hzz75 := if_f hB74 hzz75
                    cases hzz75
                    exact wpO.nil ⟨_, rfl, (WeakE.put (WeakE.push rfl (WeakE.push rfl (WeakE.push rfl (WeakE.push rfl (WeakE.put (.refl _) (Less.eq (by rw [hB74]))))))) (.refl _))⟩
                ·
                  refine wpO.nil ?_
                  refine WpC.cond rfl (fun hb77 => ?_) (fun hb77 => ?_)
                  ·
                    replace h := if_t hb77 h
                    refine WpC.seq ?_
                    refine WpC.region E.obj rfl ?_
                    refine wpO.val rfl (oper_assign rfl) rfl ?_
                    refine wpO.nil ?_
                    have hr := Option.some.inj h
                    subst hr
                    exact WpC.ret ⟨_, rfl, rfl, end1 (ArgsC.eq .nil)⟩
                  ·
                    replace h := if_f hb77 h
                    refine WpC.skip ?_
                    refine WpC.join (B := pureSt) (α := Bool) (fun a => porticolaw13_ShapeAdds_j81 a = some r) (fun a => [(4, (.d (.bool a)))]) (fun a => []) ?_ ?_
                    ·
                      intro x80 S78 H79 h
                      replace h : porticolaw13_ShapeAdds_j81 x80 = some r := h
                      replace H79 : Has pureSt S78 [] := H79
                      unfold porticolaw13_ShapeAdds_j81 at h
                      have hr := Option.some.inj h
                      subst hr
                      exact WpC.ret ⟨_, rfl, rfl, end1 (ArgsC.eq .nil)⟩
                    ·
                      obtain ⟨z82, hzz82, h⟩ := bind_some h
                      obtain ⟨z83, hzz83, h⟩ := bind_some h
                      rcases Bool.eq_false_or_eq_true (z83) with hb84 | hb84
                      ·
                        replace h := if_t hb84 h
                        obtain ⟨z85, hzz85, h⟩ := bind_some h
                        rcases Bool.eq_false_or_eq_true ((z85 == 1)) with hb86 | hb86
                        ·
                          replace h := if_t hb86 h
                          obtain ⟨z87, hzz87, h⟩ := bind_some h
                          refine WpC.drawP E.obj hmix [[(7, none)], [(7, none)], [(77, some 1)], [(76, some 0), (78, some 2)], [(79, some 3)], [(80, some 4)], [(81, some 5), (80, some 4)], [(82, some 6), (80, some 4)], [(80, some 4), (83, some 7)], [(84, some 8)], [(85, some 9)], [(85, some 9), (86, some 10)], [(87, some 11)]] [(4, some 12)] (by kernel_rfl) [] (by decide) [some (.d (encTree (Tree.mk [120] [] [] [] [z10, z11]))), some (.d (encTree (Tree.mk [120] [] [] [] [z10, z11]))), some (.d (encTree z82)), some (.d (.bool z83)), some (.d (.bool true)), some (.d (encTree (Tree.mk [] [] [] [] []))), some (.d (.int .i64 z85)), some (.d (.bool (z85 == 1))), some (.d (.bool (z85 == 1))), some (.d (.bool true)), some (.d (.bool z87)), some (.d (.bool z87)), some (.d (.bool z87))] ?_
                          refine ⟨[0, 1, 2, 3, 4, 5, 6, 7, 8, 9, 10, 11, 12], by kernel_rfl, ?_, _, rfl, ?_⟩
                          ·
                            refine .cons rfl rfl rfl (.step ?_) ?_
                            ·
                              refine wpO.val rfl (oper_load H54 (i := 1) rfl rfl (part_agg ag28 sz28 rfl)) rfl ?_
                              refine wpO.less (Less.agg' (d := encTree (Tree.mk [120] [] [] [] [z10, z11])) (CellsC.eq rfl (CellsC.eq rfl (CellsC.eq rfl (CellsC.eq rfl (CellsC.eq rfl .nil))))) ((Tree.eq _).trans rfl)) ?_
                              exact wpO.nil ⟨_, _, rfl, fun _ ht => by cases ht; exact ⟨rfl, .refl _⟩⟩
                            refine .cons rfl rfl rfl (.step ?_) ?_
                            ·
                              refine wpO.val rfl (oper_load H54 (i := 1) rfl rfl (part_agg ag28 sz28 rfl)) rfl ?_
                              refine wpO.less (Less.agg' (d := encTree (Tree.mk [120] [] [] [] [z10, z11])) (CellsC.eq rfl (CellsC.eq rfl (CellsC.eq rfl (CellsC.eq rfl (CellsC.eq rfl .nil))))) ((Tree.eq _).trans rfl)) ?_
                              exact wpO.nil ⟨_, _, rfl, fun _ ht => by cases ht; exact ⟨rfl, .refl _⟩⟩
                            refine .cons rfl rfl rfl (.step ?_) ?_
                            ·
                              refine wpO.ret rfl (oper_callF rfl rfl) (shape_Copy_ok E _ _ _ hzz82 _ _ (ArgsC.eq .nil)) rfl ?_
                              exact wpO.nil ⟨_, _, rfl, fun _ ht => by cases ht; exact ⟨rfl, .refl _⟩⟩
                            refine .cons rfl rfl rfl (.step ?_) ?_
                            ·
                              refine wpO.ret rfl (oper_callF rfl rfl) (shape_Same_ok E _ _ _ _ hzz83 _ _ (ArgsC.eq (ArgsC.eq .nil))) rfl ?_
                              exact wpO.nil ⟨_, _, rfl, fun _ ht => by cases ht; exact ⟨rfl, .refl _⟩⟩
                            refine .cons rfl rfl rfl (.step ?_) ?_
                            ·
                              refine wpO.val rfl (oper_move rfl) rfl ?_
                              exact wpO.nil ⟨_, _, rfl, fun _ ht => by cases ht; exact ⟨rfl, (.eq (by rw [hb84]))⟩⟩
                            refine .cons rfl rfl rfl (.step ?_) ?_
                            ·
                              refine wpO.val rfl (oper_build (cs := [(.d (.str [])), (.d (.str [])), (.d (.str [])), (.d .nils), (.d .nils)]) zo28 rfl (place_struct28) rfl) rfl ?_
                              refine wpO.less (Less.agg' (d := encTree (Tree.mk [] [] [] [] [])) (CellsC.eq rfl (CellsC.eq rfl (CellsC.eq rfl (CellsC.consW rfl (.nils false) rfl rfl (CellsC.consW rfl (.nils false) rfl rfl .nil))))) ((Tree.eq _).trans rfl)) ?_
                              exact wpO.nil ⟨_, _, rfl, fun _ ht => by cases ht; exact ⟨rfl, .refl _⟩⟩
                            refine .cons rfl rfl rfl (.step ?_) ?_
                            ·
                              refine wpO.ret rfl (oper_callF rfl rfl) (shape_Count_ok E _ _ _ hzz85 _ _ (ArgsC.eq .nil)) rfl ?_
                              exact wpO.nil ⟨_, _, rfl, fun _ ht => by cases ht; exact ⟨rfl, .refl _⟩⟩
                            refine .cons rfl rfl rfl (.step ?_) ?_
                            ·
                              refine wpO.val rfl (oper_bin rfl rfl binD_eql) rfl ?_
                              exact wpO.nil ⟨_, _, rfl, fun _ ht => by cases ht; exact ⟨rfl, .refl _⟩⟩
                            refine .cons rfl rfl rfl (.step ?_) ?_
                            ·
                              refine wpO.val rfl (oper_pick (b := true) rfl rfl) rfl ?_
                              exact wpO.nil ⟨_, _, rfl, fun _ ht => by cases ht; exact ⟨rfl, .refl _⟩⟩
                            refine .cons rfl rfl rfl (.step ?_) ?_
                            ·
                              refine wpO.val rfl (oper_move rfl) rfl ?_
                              exact wpO.nil ⟨_, _, rfl, fun _ ht => by cases ht; exact ⟨rfl, (.eq (by rw [hb86]))⟩⟩
                            refine .cons rfl rfl rfl (.step ?_) ?_
                            ·
                              refine wpO.ret rfl (oper_callF rfl rfl) (E.porticolaw13_ShapeRuns_ok _  _ hzz87 _ _ .nil) rfl ?_
                              exact wpO.nil ⟨_, _, rfl, fun _ ht => by cases ht; exact ⟨rfl, .refl _⟩⟩
                            refine .cons rfl rfl rfl (.step ?_) ?_
                            ·
                              refine wpO.val rfl (oper_pick (b := true) rfl rfl) rfl ?_
                              exact wpO.nil ⟨_, _, rfl, fun _ ht => by cases ht; exact ⟨rfl, .refl _⟩⟩
                            refine .cons rfl rfl rfl (.step ?_) ?_
                            ·
                              refine wpO.val rfl (oper_assign rfl) rfl ?_
                              exact wpO.nil ⟨_, _, rfl, fun _ ht => by cases ht; exact ⟨rfl, .refl _⟩⟩
                            exact .nil
                          exact ⟨z87, _, _, S53, .refl _ _, .refl _, (WeakE.cons rfl (.refl _) WeakE.nil), H54.sel [] (by decide) rfl, h⟩
                        ·
                          replace h := if_f hb86 h
                          refine WpC.drawP E.obj hmix [[(7, none)], [(7, none)], [(77, some 1)], [(76, some 0), (78, some 2)], [(79, some 3)], [(80, some 4)], [(81, some 5), (80, some 4)], [(82, some 6), (80, some 4)], [(80, some 4), (83, some 7)], [(84, some 8)], [(85, some 9)], [(85, some 9), (86, some 10)], [(87, some 11)]] [(4, some 12)] (by kernel_rfl) [] (by decide) [some (.d (encTree (Tree.mk [120] [] [] [] [z10, z11]))), some (.d (encTree (Tree.mk [120] [] [] [] [z10, z11]))), some (.d (encTree z82)), some (.d (.bool z83)), some (.d (.bool true)), some (.d (encTree (Tree.mk [] [] [] [] []))), some (.d (.int .i64 z85)), some (.d (.bool (z85 == 1))), some (.d (.bool (z85 == 1))), some (.d (.bool false)), some (.tup []), some (.d (.bool false)), some (.d (.bool false))] ?_
                          refine ⟨[0, 1, 2, 3, 4, 5, 6, 7, 8, 9, 10, 11, 12], by kernel_rfl, ?_, _, rfl, ?_⟩
                          ·
                            refine .cons rfl rfl rfl (.step ?_) ?_
                            ·
                              refine wpO.val rfl (oper_load H54 (i := 1) rfl rfl (part_agg ag28 sz28 rfl)) rfl ?_
                              refine wpO.less (Less.agg' (d := encTree (Tree.mk [120] [] [] [] [z10, z11])) (CellsC.eq rfl (CellsC.eq rfl (CellsC.eq rfl (CellsC.eq rfl (CellsC.eq rfl .nil))))) ((Tree.eq _).trans rfl)) ?_
                              exact wpO.nil ⟨_, _, rfl, fun _ ht => by cases ht; exact ⟨rfl, .refl _⟩⟩
                            refine .cons rfl rfl rfl (.step ?_) ?_
                            ·
                              refine wpO.val rfl (oper_load H54 (i := 1) rfl rfl (part_agg ag28 sz28 rfl)) rfl ?_
                              refine wpO.less (Less.agg' (d := encTree (Tree.mk [120] [] [] [] [z10, z11])) (CellsC.eq rfl (CellsC.eq rfl (CellsC.eq rfl (CellsC.eq rfl (CellsC.eq rfl .nil))))) ((Tree.eq _).trans rfl)) ?_
                              exact wpO.nil ⟨_, _, rfl, fun _ ht => by cases ht; exact ⟨rfl, .refl _⟩⟩
                            refine .cons rfl rfl rfl (.step ?_) ?_
                            ·
                              refine wpO.ret rfl (oper_callF rfl rfl) (shape_Copy_ok E _ _ _ hzz82 _ _ (ArgsC.eq .nil)) rfl ?_
                              exact wpO.nil ⟨_, _, rfl, fun _ ht => by cases ht; exact ⟨rfl, .refl _⟩⟩
                            refine .cons rfl rfl rfl (.step ?_) ?_
                            ·
                              refine wpO.ret rfl (oper_callF rfl rfl) (shape_Same_ok E _ _ _ _ hzz83 _ _ (ArgsC.eq (ArgsC.eq .nil))) rfl ?_
                              exact wpO.nil ⟨_, _, rfl, fun _ ht => by cases ht; exact ⟨rfl, .refl _⟩⟩
                            refine .cons rfl rfl rfl (.step ?_) ?_
                            ·
                              refine wpO.val rfl (oper_move rfl) rfl ?_
                              exact wpO.nil ⟨_, _, rfl, fun _ ht => by cases ht; exact ⟨rfl, (.eq (by rw [hb84]))⟩⟩
                            refine .cons rfl rfl rfl (.step ?_) ?_
                            ·
                              refine wpO.val rfl (oper_build (cs := [(.d (.str [])), (.d (.str [])), (.d (.str [])), (.d .nils), (.d .nils)]) zo28 rfl (place_struct28) rfl) rfl ?_
                              refine wpO.less (Less.agg' (d := encTree (Tree.mk [] [] [] [] [])) (CellsC.eq rfl (CellsC.eq rfl (CellsC.eq rfl (CellsC.consW rfl (.nils false) rfl rfl (CellsC.consW rfl (.nils false) rfl rfl .nil))))) ((Tree.eq _).trans rfl)) ?_
                              exact wpO.nil ⟨_, _, rfl, fun _ ht => by cases ht; exact ⟨rfl, .refl _⟩⟩
                            refine .cons rfl rfl rfl (.step ?_) ?_
                            ·
                              refine wpO.ret rfl (oper_callF rfl rfl) (shape_Count_ok E _ _ _ hzz85 _ _ (ArgsC.eq .nil)) rfl ?_
                              exact wpO.nil ⟨_, _, rfl, fun _ ht => by cases ht; exact ⟨rfl, .refl _⟩⟩
                            refine .cons rfl rfl rfl (.step ?_) ?_
                            ·
                              refine wpO.val rfl (oper_bin rfl rfl binD_eql) rfl ?_
                              exact wpO.nil ⟨_, _, rfl, fun _ ht => by cases ht; exact ⟨rfl, .refl _⟩⟩
                            refine .cons rfl rfl rfl (.step ?_) ?_
                            ·
                              refine wpO.val rfl (oper_pick (b := true) rfl rfl) rfl ?_
                              exact wpO.nil ⟨_, _, rfl, fun _ ht => by cases ht; exact ⟨rfl, .refl _⟩⟩
                            refine .cons rfl rfl rfl (.step ?_) ?_
                            ·
                              refine wpO.val rfl (oper_move rfl) rfl ?_
                              exact wpO.nil ⟨_, _, rfl, fun _ ht => by cases ht; exact ⟨rfl, (.eq (by rw [hb86]))⟩⟩
                            refine .cons rfl rfl rfl (.no rfl (.refl _)) ?_
                            refine .cons rfl rfl rfl (.step ?_) ?_
                            ·
                              refine wpO.val rfl (oper_pick (b := false) rfl rfl) rfl ?_
                              exact wpO.nil ⟨_, _, rfl, fun _ ht => by cases ht; exact ⟨rfl, .refl _⟩⟩
                            refine .cons rfl rfl rfl (.step ?_) ?_
                            ·
                              refine wpO.val rfl (oper_assign rfl) rfl ?_
                              exact wpO.nil ⟨_, _, rfl, fun _ ht => by cases ht; exact ⟨rfl, .refl _⟩⟩
                            exact .nil
                          exact ⟨false, _, _, S53, .refl _ _, .refl _, (WeakE.cons rfl (.refl _) WeakE.nil), H54.sel [] (by decide) rfl, h⟩
                      ·
                        replace h := if_f hb84 h
                        refine WpC.drawP E.obj hmix [[(7, none)], [(7, none)], [(77, some 1)], [(76, some 0), (78, some 2)], [(79, some 3)], [(80, some 4)], [(81, some 5), (80, some 4)], [(82, some 6), (80, some 4)], [(80, some 4), (83, some 7)], [(84, some 8)], [(85, some 9)], [(85, some 9), (86, some 10)], [(87, some 11)]] [(4, some 12)] (by kernel_rfl) [] (by decide) [some (.d (encTree (Tree.mk [120] [] [] [] [z10, z11]))), some (.d (encTree (Tree.mk [120] [] [] [] [z10, z11]))), some (.d (encTree z82)), some (.d (.bool z83)), some (.d (.bool false)), some (.tup []), some (.tup []), some (.tup []), some (.d (.bool false)), some (.d (.bool false)), some (.tup []), some (.d (.bool false)), some (.d (.bool false))] ?_
                        refine ⟨[0, 1, 2, 3, 4, 5, 6, 7, 8, 9, 10, 11, 12], by kernel_rfl, ?_, _, rfl, ?_⟩
                        ·
                          refine .cons rfl rfl rfl (.step ?_) ?_
                          ·
                            refine wpO.val rfl (oper_load H54 (i := 1) rfl rfl (part_agg ag28 sz28 rfl)) rfl ?_
                            refine wpO.less (Less.agg' (d := encTree (Tree.mk [120] [] [] [] [z10, z11])) (CellsC.eq rfl (CellsC.eq rfl (CellsC.eq rfl (CellsC.eq rfl (CellsC.eq rfl .nil))))) ((Tree.eq _).trans rfl)) ?_
                            exact wpO.nil ⟨_, _, rfl, fun _ ht => by cases ht; exact ⟨rfl, .refl _⟩⟩
                          refine .cons rfl rfl rfl (.step ?_) ?_
                          ·
                            refine wpO.val rfl (oper_load H54 (i := 1) rfl rfl (part_agg ag28 sz28 rfl)) rfl ?_
                            refine wpO.less (Less.agg' (d := encTree (Tree.mk [120] [] [] [] [z10, z11])) (CellsC.eq rfl (CellsC.eq rfl (CellsC.eq rfl (CellsC.eq rfl (CellsC.eq rfl .nil))))) ((Tree.eq _).trans rfl)) ?_
                            exact wpO.nil ⟨_, _, rfl, fun _ ht => by cases ht; exact ⟨rfl, .refl _⟩⟩
                          refine .cons rfl rfl rfl (.step ?_) ?_
                          ·
                            refine wpO.ret rfl (oper_callF rfl rfl) (shape_Copy_ok E _ _ _ hzz82 _ _ (ArgsC.eq .nil)) rfl ?_
                            exact wpO.nil ⟨_, _, rfl, fun _ ht => by cases ht; exact ⟨rfl, .refl _⟩⟩
                          refine .cons rfl rfl rfl (.step ?_) ?_
                          ·
                            refine wpO.ret rfl (oper_callF rfl rfl) (shape_Same_ok E _ _ _ _ hzz83 _ _ (ArgsC.eq (ArgsC.eq .nil))) rfl ?_
                            exact wpO.nil ⟨_, _, rfl, fun _ ht => by cases ht; exact ⟨rfl, .refl _⟩⟩
                          refine .cons rfl rfl rfl (.step ?_) ?_
                          ·
                            refine wpO.val rfl (oper_move rfl) rfl ?_
                            exact wpO.nil ⟨_, _, rfl, fun _ ht => by cases ht; exact ⟨rfl, (.eq (by rw [hb84]))⟩⟩
                          refine .cons rfl rfl rfl (.no rfl (.refl _)) ?_
                          refine .cons rfl rfl rfl (.no rfl (.refl _)) ?_
                          refine .cons rfl rfl rfl (.no rfl (.refl _)) ?_
                          refine .cons rfl rfl rfl (.step ?_) ?_
                          ·
                            refine wpO.val rfl (oper_pick (b := false) rfl rfl) rfl ?_
                            exact wpO.nil ⟨_, _, rfl, fun _ ht => by cases ht; exact ⟨rfl, .refl _⟩⟩
                          refine .cons rfl rfl rfl (.step ?_) ?_
                          ·
                            refine wpO.val rfl (oper_move rfl) rfl ?_
                            exact wpO.nil ⟨_, _, rfl, fun _ ht => by cases ht; exact ⟨rfl, .refl _⟩⟩
                          refine .cons rfl rfl rfl (.no rfl (.refl _)) ?_
                          refine .cons rfl rfl rfl (.step ?_) ?_
                          ·
                            refine wpO.val rfl (oper_pick (b := false) rfl rfl) rfl ?_
                            exact wpO.nil ⟨_, _, rfl, fun _ ht => by cases ht; exact ⟨rfl, .refl _⟩⟩
                          refine .cons rfl rfl rfl (.step ?_) ?_
                          ·
                            refine wpO.val rfl (oper_assign rfl) rfl ?_
                            exact wpO.nil ⟨_, _, rfl, fun _ ht => by cases ht; exact ⟨rfl, .refl _⟩⟩
                          exact .nil
                        exact ⟨false, _, _, S53, .refl _ _, .refl _, (WeakE.cons rfl (.refl _) WeakE.nil), H54.sel [] (by decide) rfl, h⟩
  ·
    obtain ⟨z88, hzz88, h⟩ := bind_some h
    obtain ⟨z89, hzz89, h⟩ := bind_some h
    obtain ⟨z90, hzz90, h⟩ := bind_some h
    rcases Bool.eq_false_or_eq_true ((z88 != (IntKind.wrap .i64 ((IntKind.wrap .i64 (z89 + z90)) + 1)))) with hb91 | hb91
    ·
      replace h := if_t hb91 h
      refine WpC.drawP E.obj hmix [[(7, none)], [(17, some 0)], [(5, none)], [(19, some 2)], [(6, none)], [(21, some 4)], [(20, some 3), (22, some 5)], [(23, some 6)], [(18, some 1), (24, some 7)], [(25, some 8)], [(7, none), (26, some 9)], [(27, some 10), (26, some 9)], [(5, none), (26, some 9)], [(29, some 12), (26, some 9)], [(6, none), (26, some 9)], [(31, some 14), (26, some 9)], [(30, some 13), (32, some 15), (26, some 9)], [(28, some 11), (33, some 16), (26, some 9)], [(26, some 9), (34, some 17)], [(35, some 18)], [(7, none), (36, some 19)], [(37, some 20), (36, some 19)], [(5, none), (36, some 19)], [(39, some 22), (36, some 19)], [(6, none), (36, some 19)], [(41, some 24), (36, some 19)], [(40, some 23), (42, some 25), (36, some 19)], [(43, some 26), (36, some 19)], [(38, some 21), (44, some 27), (36, some 19)], [(36, some 19), (45, some 28)]] [(5, none), (7, none), (46, some 29)] (by kernel_rfl) [] (by decide) [some (.d (encTree (Tree.mk [120] [] [] [] [z10, z11]))), some (.d (.int .i64 z88)), some (.d (encTree z10)), some (.d (.int .i64 z89)), some (.d (encTree z11)), some (.d (.int .i64 z90)), some (.d (.int .i64 (IntKind.wrap .i64 (z89 + z90)))), some (.d (.int .i64 (IntKind.wrap .i64 ((IntKind.wrap .i64 (z89 + z90)) + 1)))), some (.d (.bool (z88 != (IntKind.wrap .i64 ((IntKind.wrap .i64 (z89 + z90)) + 1))))), some (.d (.bool true)), some (.tup []), some (.tup []), some (.tup []), some (.tup []), some (.tup []), some (.tup []), some (.tup []), some (.tup []), some (.d (.bool true)), some (.d (.bool true)), some (.tup []), some (.tup []), some (.tup []), some (.tup []), some (.tup []), some (.tup []), some (.tup []), some (.tup []), some (.tup []), some (.d (.bool true))] ?_
      refine ⟨[0, 1, 2, 3, 4, 5, 6, 7, 8, 9, 10, 11, 12, 13, 14, 15, 16, 17, 18, 19, 20, 21, 22, 23, 24, 25, 26, 27, 28, 29], by kernel_rfl, ?_, _, rfl, ?_⟩
      ·
        refine .cons rfl rfl rfl (.step ?_) ?_
        ·
          refine wpO.val rfl (oper_load H33 (i := 0) rfl rfl (part_agg ag28 sz28 rfl)) rfl ?_
          refine wpO.less (Less.agg' (d := encTree (Tree.mk [120] [] [] [] [z10, z11])) (CellsC.eq rfl (CellsC.eq rfl (CellsC.eq rfl (CellsC.eq rfl (CellsC.eq rfl .nil))))) ((Tree.eq _).trans rfl)) ?_
          exact wpO.nil ⟨_, _, rfl, fun _ ht => by cases ht; exact ⟨rfl, .refl _⟩⟩
        refine .cons rfl rfl rfl (.step ?_) ?_
        ·
          refine wpO.ret rfl (oper_callF rfl rfl) (shape_Count_ok E _ _ _ hzz88 _ _ (ArgsC.eq .nil)) rfl ?_
          exact wpO.nil ⟨_, _, rfl, fun _ ht => by cases ht; exact ⟨rfl, .refl _⟩⟩
        refine .cons rfl rfl rfl (.step ?_) ?_
        ·
          refine wpO.val rfl (oper_load H33 (i := 2) rfl rfl (part_agg ag28 sz28 rfl)) rfl ?_
          refine wpO.less (Less.agg' (d := encTree z10) (CellsC.eq rfl (CellsC.eq rfl (CellsC.eq rfl (CellsC.eq rfl (CellsC.eq rfl .nil))))) ((Tree.eq _).trans rfl)) ?_
          exact wpO.nil ⟨_, _, rfl, fun _ ht => by cases ht; exact ⟨rfl, .refl _⟩⟩
        refine .cons rfl rfl rfl (.step ?_) ?_
        ·
          refine wpO.ret rfl (oper_callF rfl rfl) (shape_Count_ok E _ _ _ hzz89 _ _ (ArgsC.eq .nil)) rfl ?_
          exact wpO.nil ⟨_, _, rfl, fun _ ht => by cases ht; exact ⟨rfl, .refl _⟩⟩
        refine .cons rfl rfl rfl (.step ?_) ?_
        ·
          refine wpO.val rfl (oper_load H33 (i := 1) rfl rfl (part_agg ag28 sz28 rfl)) rfl ?_
          refine wpO.less (Less.agg' (d := encTree z11) (CellsC.eq rfl (CellsC.eq rfl (CellsC.eq rfl (CellsC.eq rfl (CellsC.eq rfl .nil))))) ((Tree.eq _).trans rfl)) ?_
          exact wpO.nil ⟨_, _, rfl, fun _ ht => by cases ht; exact ⟨rfl, .refl _⟩⟩
        refine .cons rfl rfl rfl (.step ?_) ?_
        ·
          refine wpO.ret rfl (oper_callF rfl rfl) (shape_Count_ok E _ _ _ hzz90 _ _ (ArgsC.eq .nil)) rfl ?_
          exact wpO.nil ⟨_, _, rfl, fun _ ht => by cases ht; exact ⟨rfl, .refl _⟩⟩
        refine .cons rfl rfl rfl (.step ?_) ?_
        ·
          refine wpO.val rfl (oper_bin rfl rfl binD_add) rfl ?_
          exact wpO.nil ⟨_, _, rfl, fun _ ht => by cases ht; exact ⟨rfl, .refl _⟩⟩
        refine .cons rfl rfl rfl (.step ?_) ?_
        ·
          refine wpO.val rfl (oper_bin rfl rfl binD_add) rfl ?_
          exact wpO.nil ⟨_, _, rfl, fun _ ht => by cases ht; exact ⟨rfl, .refl _⟩⟩
        refine .cons rfl rfl rfl (.step ?_) ?_
        ·
          refine wpO.val rfl (oper_bin rfl rfl binD_neq) rfl ?_
          exact wpO.nil ⟨_, _, rfl, fun _ ht => by cases ht; exact ⟨rfl, .refl _⟩⟩
        refine .cons rfl rfl rfl (.step ?_) ?_
        ·
          refine wpO.val rfl (oper_move rfl) rfl ?_
          exact wpO.nil ⟨_, _, rfl, fun _ ht => by cases ht; exact ⟨rfl, (.eq (by rw [hb91]))⟩⟩
        refine .cons rfl rfl rfl (.no rfl (.refl _)) ?_
        refine .cons rfl rfl rfl (.no rfl (.refl _)) ?_
        refine .cons rfl rfl rfl (.no rfl (.refl _)) ?_
        refine .cons rfl rfl rfl (.no rfl (.refl _)) ?_
        refine .cons rfl rfl rfl (.no rfl (.refl _)) ?_
        refine .cons rfl rfl rfl (.no rfl (.refl _)) ?_
        refine .cons rfl rfl rfl (.no rfl (.refl _)) ?_
        refine .cons rfl rfl rfl (.no rfl (.refl _)) ?_
        refine .cons rfl rfl rfl (.step ?_) ?_
        ·
          refine wpO.val rfl (oper_pick (b := true) rfl rfl) rfl ?_
          exact wpO.nil ⟨_, _, rfl, fun _ ht => by cases ht; exact ⟨rfl, .refl _⟩⟩
        refine .cons rfl rfl rfl (.step ?_) ?_
        ·
          refine wpO.val rfl (oper_move rfl) rfl ?_
          exact wpO.nil ⟨_, _, rfl, fun _ ht => by cases ht; exact ⟨rfl, .refl _⟩⟩
        refine .cons rfl rfl rfl (.no rfl (.refl _)) ?_
        refine .cons rfl rfl rfl (.no rfl (.refl _)) ?_
        refine .cons rfl rfl rfl (.no rfl (.refl _)) ?_
        refine .cons rfl rfl rfl (.no rfl (.refl _)) ?_
        refine .cons rfl rfl rfl (.no rfl (.refl _)) ?_
        refine .cons rfl rfl rfl (.no rfl (.refl _)) ?_
        refine .cons rfl rfl rfl (.no rfl (.refl _)) ?_
        refine .cons rfl rfl rfl (.no rfl (.refl _)) ?_
        refine .cons rfl rfl rfl (.no rfl (.refl _)) ?_
        refine .cons rfl rfl rfl (.step ?_) ?_
        ·
          refine wpO.val rfl (oper_pick (b := true) rfl rfl) rfl ?_
          exact wpO.nil ⟨_, _, rfl, fun _ ht => by cases ht; exact ⟨rfl, .refl _⟩⟩
        exact .nil
      exact ⟨true, _, _, S32, .refl _ _, .refl _, (WeakE.cons rfl (.refl _) (WeakE.cons rfl (.refl _) (WeakE.cons rfl (.refl _) WeakE.nil))), H33.sel [0, 2] (by decide) rfl, h⟩
    ·
      replace h := if_f hb91 h
      obtain ⟨z92, hzz92, h⟩ := bind_some h
      obtain ⟨z93, hzz93, h⟩ := bind_some h
      obtain ⟨z94, hzz94, h⟩ := bind_some h
      rcases Bool.eq_false_or_eq_true ((z92 != (IntKind.wrap .i64 (z93 + z94)))) with hb95 | hb95
      ·
        replace h := if_t hb95 h
        refine WpC.drawP E.obj hmix [[(7, none)], [(17, some 0)], [(5, none)], [(19, some 2)], [(6, none)], [(21, some 4)], [(20, some 3), (22, some 5)], [(23, some 6)], [(18, some 1), (24, some 7)], [(25, some 8)], [(7, none), (26, some 9)], [(27, some 10), (26, some 9)], [(5, none), (26, some 9)], [(29, some 12), (26, some 9)], [(6, none), (26, some 9)], [(31, some 14), (26, some 9)], [(30, some 13), (32, some 15), (26, some 9)], [(28, some 11), (33, some 16), (26, some 9)], [(26, some 9), (34, some 17)], [(35, some 18)], [(7, none), (36, some 19)], [(37, some 20), (36, some 19)], [(5, none), (36, some 19)], [(39, some 22), (36, some 19)], [(6, none), (36, some 19)], [(41, some 24), (36, some 19)], [(40, some 23), (42, some 25), (36, some 19)], [(43, some 26), (36, some 19)], [(38, some 21), (44, some 27), (36, some 19)], [(36, some 19), (45, some 28)]] [(5, none), (7, none), (46, some 29)] (by kernel_rfl) [] (by decide) [some (.d (encTree (Tree.mk [120] [] [] [] [z10, z11]))), some (.d (.int .i64 z88)), some (.d (encTree z10)), some (.d (.int .i64 z89)), some (.d (encTree z11)), some (.d (.int .i64 z90)), some (.d (.int .i64 (IntKind.wrap .i64 (z89 + z90)))), some (.d (.int .i64 (IntKind.wrap .i64 ((IntKind.wrap .i64 (z89 + z90)) + 1)))), some (.d (.bool (z88 != (IntKind.wrap .i64 ((IntKind.wrap .i64 (z89 + z90)) + 1))))), some (.d (.bool false)), some (.d (encTree (Tree.mk [120] [] [] [] [z10, z11]))), some (.d (.int .i64 z92)), some (.d (encTree z10)), some (.d (.int .i64 z93)), some (.d (encTree z11)), some (.d (.int .i64 z94)), some (.d (.int .i64 (IntKind.wrap .i64 (z93 + z94)))), some (.d (.bool (z92 != (IntKind.wrap .i64 (z93 + z94))))), some (.d (.bool (z92 != (IntKind.wrap .i64 (z93 + z94))))), some (.d (.bool true)), some (.tup []), some (.tup []), some (.tup []), some (.tup []), some (.tup []), some (.tup []), some (.tup []), some (.tup []), some (.tup []), some (.d (.bool true))] ?_
        refine ⟨[0, 1, 2, 3, 4, 5, 6, 7, 8, 9, 10, 11, 12, 13, 14, 15, 16, 17, 18, 19, 20, 21, 22, 23, 24, 25, 26, 27, 28, 29], by kernel_rfl, ?_, _, rfl, ?_⟩
        ·
          refine .cons rfl rfl rfl (.step ?_) ?_
          ·
            refine wpO.val rfl (oper_load H33 (i := 0) rfl rfl (part_agg ag28 sz28 rfl)) rfl ?_
            refine wpO.less (Less.agg' (d := encTree (Tree.mk [120] [] [] [] [z10, z11])) (CellsC.eq rfl (CellsC.eq rfl (CellsC.eq rfl (CellsC.eq rfl (CellsC.eq rfl .nil))))) ((Tree.eq _).trans rfl)) ?_
            exact wpO.nil ⟨_, _, rfl, fun _ ht => by cases ht; exact ⟨rfl, .refl _⟩⟩
          refine .cons rfl rfl rfl (.step ?_) ?_
          ·
            refine wpO.ret rfl (oper_callF rfl rfl) (shape_Count_ok E _ _ _ hzz88 _ _ (ArgsC.eq .nil)) rfl ?_
            exact wpO.nil ⟨_, _, rfl, fun _ ht => by cases ht; exact ⟨rfl, .refl _⟩⟩
          refine .cons rfl rfl rfl (.step ?_) ?_
          ·
            refine wpO.val rfl (oper_load H33 (i := 2) rfl rfl (part_agg ag28 sz28 rfl)) rfl ?_
            refine wpO.less (Less.agg' (d := encTree z10) (CellsC.eq rfl (CellsC.eq rfl (CellsC.eq rfl (CellsC.eq rfl (CellsC.eq rfl .nil))))) ((Tree.eq _).trans rfl)) ?_
            exact wpO.nil ⟨_, _, rfl, fun _ ht => by cases ht; exact ⟨rfl, .refl _⟩⟩
          refine .cons rfl rfl rfl (.step ?_) ?_
          ·
            refine wpO.ret rfl (oper_callF rfl rfl) (shape_Count_ok E _ _ _ hzz89 _ _ (ArgsC.eq .nil)) rfl ?_
            exact wpO.nil ⟨_, _, rfl, fun _ ht => by cases ht; exact ⟨rfl, .refl _⟩⟩
          refine .cons rfl rfl rfl (.step ?_) ?_
          ·
            refine wpO.val rfl (oper_load H33 (i := 1) rfl rfl (part_agg ag28 sz28 rfl)) rfl ?_
            refine wpO.less (Less.agg' (d := encTree z11) (CellsC.eq rfl (CellsC.eq rfl (CellsC.eq rfl (CellsC.eq rfl (CellsC.eq rfl .nil))))) ((Tree.eq _).trans rfl)) ?_
            exact wpO.nil ⟨_, _, rfl, fun _ ht => by cases ht; exact ⟨rfl, .refl _⟩⟩
          refine .cons rfl rfl rfl (.step ?_) ?_
          ·
            refine wpO.ret rfl (oper_callF rfl rfl) (shape_Count_ok E _ _ _ hzz90 _ _ (ArgsC.eq .nil)) rfl ?_
            exact wpO.nil ⟨_, _, rfl, fun _ ht => by cases ht; exact ⟨rfl, .refl _⟩⟩
          refine .cons rfl rfl rfl (.step ?_) ?_
          ·
            refine wpO.val rfl (oper_bin rfl rfl binD_add) rfl ?_
            exact wpO.nil ⟨_, _, rfl, fun _ ht => by cases ht; exact ⟨rfl, .refl _⟩⟩
          refine .cons rfl rfl rfl (.step ?_) ?_
          ·
            refine wpO.val rfl (oper_bin rfl rfl binD_add) rfl ?_
            exact wpO.nil ⟨_, _, rfl, fun _ ht => by cases ht; exact ⟨rfl, .refl _⟩⟩
          refine .cons rfl rfl rfl (.step ?_) ?_
          ·
            refine wpO.val rfl (oper_bin rfl rfl binD_neq) rfl ?_
            exact wpO.nil ⟨_, _, rfl, fun _ ht => by cases ht; exact ⟨rfl, .refl _⟩⟩
          refine .cons rfl rfl rfl (.step ?_) ?_
          ·
            refine wpO.val rfl (oper_move rfl) rfl ?_
            exact wpO.nil ⟨_, _, rfl, fun _ ht => by cases ht; exact ⟨rfl, (.eq (by rw [hb91]))⟩⟩
          refine .cons rfl rfl rfl (.step ?_) ?_
          ·
            refine wpO.val rfl (oper_load H33 (i := 0) rfl rfl (part_agg ag28 sz28 rfl)) rfl ?_
            refine wpO.less (Less.agg' (d := encTree (Tree.mk [120] [] [] [] [z10, z11])) (CellsC.eq rfl (CellsC.eq rfl (CellsC.eq rfl (CellsC.eq rfl (CellsC.eq rfl .nil))))) ((Tree.eq _).trans rfl)) ?_
            exact wpO.nil ⟨_, _, rfl, fun _ ht => by cases ht; exact ⟨rfl, .refl _⟩⟩
          refine .cons rfl rfl rfl (.step ?_) ?_
          ·
            refine wpO.ret rfl (oper_callF rfl rfl) (shape_Slots_ok E _ _ _ hzz92 _ _ (ArgsC.eq .nil)) rfl ?_
            exact wpO.nil ⟨_, _, rfl, fun _ ht => by cases ht; exact ⟨rfl, .refl _⟩⟩
          refine .cons rfl rfl rfl (.step ?_) ?_
          ·
            refine wpO.val rfl (oper_load H33 (i := 2) rfl rfl (part_agg ag28 sz28 rfl)) rfl ?_
            refine wpO.less (Less.agg' (d := encTree z10) (CellsC.eq rfl (CellsC.eq rfl (CellsC.eq rfl (CellsC.eq rfl (CellsC.eq rfl .nil))))) ((Tree.eq _).trans rfl)) ?_
            exact wpO.nil ⟨_, _, rfl, fun _ ht => by cases ht; exact ⟨rfl, .refl _⟩⟩
          refine .cons rfl rfl rfl (.step ?_) ?_
          ·
            refine wpO.ret rfl (oper_callF rfl rfl) (shape_Slots_ok E _ _ _ hzz93 _ _ (ArgsC.eq .nil)) rfl ?_
            exact wpO.nil ⟨_, _, rfl, fun _ ht => by cases ht; exact ⟨rfl, .refl _⟩⟩
          refine .cons rfl rfl rfl (.step ?_) ?_
          ·
            refine wpO.val rfl (oper_load H33 (i := 1) rfl rfl (part_agg ag28 sz28 rfl)) rfl ?_
            refine wpO.less (Less.agg' (d := encTree z11) (CellsC.eq rfl (CellsC.eq rfl (CellsC.eq rfl (CellsC.eq rfl (CellsC.eq rfl .nil))))) ((Tree.eq _).trans rfl)) ?_
            exact wpO.nil ⟨_, _, rfl, fun _ ht => by cases ht; exact ⟨rfl, .refl _⟩⟩
          refine .cons rfl rfl rfl (.step ?_) ?_
          ·
            refine wpO.ret rfl (oper_callF rfl rfl) (shape_Slots_ok E _ _ _ hzz94 _ _ (ArgsC.eq .nil)) rfl ?_
            exact wpO.nil ⟨_, _, rfl, fun _ ht => by cases ht; exact ⟨rfl, .refl _⟩⟩
          refine .cons rfl rfl rfl (.step ?_) ?_
          ·
            refine wpO.val rfl (oper_bin rfl rfl binD_add) rfl ?_
            exact wpO.nil ⟨_, _, rfl, fun _ ht => by cases ht; exact ⟨rfl, .refl _⟩⟩
          refine .cons rfl rfl rfl (.step ?_) ?_
          ·
            refine wpO.val rfl (oper_bin rfl rfl binD_neq) rfl ?_
            exact wpO.nil ⟨_, _, rfl, fun _ ht => by cases ht; exact ⟨rfl, .refl _⟩⟩
          refine .cons rfl rfl rfl (.step ?_) ?_
          ·
            refine wpO.val rfl (oper_pick (b := false) rfl rfl) rfl ?_
            exact wpO.nil ⟨_, _, rfl, fun _ ht => by cases ht; exact ⟨rfl, .refl _⟩⟩
          refine .cons rfl rfl rfl (.step ?_) ?_
          ·
            refine wpO.val rfl (oper_move rfl) rfl ?_
            exact wpO.nil ⟨_, _, rfl, fun _ ht => by cases ht; exact ⟨rfl, (.eq (by rw [hb95]))⟩⟩
          refine .cons rfl rfl rfl (.no rfl (.refl _)) ?_
          refine .cons rfl rfl rfl (.no rfl (.refl _)) ?_
          refine .cons rfl rfl rfl (.no rfl (.refl _)) ?_
          refine .cons rfl rfl rfl (.no rfl (.refl _)) ?_
          refine .cons rfl rfl rfl (.no rfl (.refl _)) ?_
          refine .cons rfl rfl rfl (.no rfl (.refl _)) ?_
          refine .cons rfl rfl rfl (.no rfl (.refl _)) ?_
          refine .cons rfl rfl rfl (.no rfl (.refl _)) ?_
          refine .cons rfl rfl rfl (.no rfl (.refl _)) ?_
          refine .cons rfl rfl rfl (.step ?_) ?_
          ·
            refine wpO.val rfl (oper_pick (b := true) rfl rfl) rfl ?_
            exact wpO.nil ⟨_, _, rfl, fun _ ht => by cases ht; exact ⟨rfl, .refl _⟩⟩
          exact .nil
        exact ⟨true, _, _, S32, .refl _ _, .refl _, (WeakE.cons rfl (.refl _) (WeakE.cons rfl (.refl _) (WeakE.cons rfl (.refl _) WeakE.nil))), H33.sel [0, 2] (by decide) rfl, h⟩
      ·
        replace h := if_f hb95 h
        obtain ⟨z96, hzz96, h⟩ := bind_some h
        obtain ⟨z97, hzz97, h⟩ := bind_some h
        obtain ⟨z98, hzz98, h⟩ := bind_some h
        refine WpC.drawP E.obj hmix [[(7, none)], [(17, some 0)], [(5, none)], [(19, some 2)], [(6, none)], [(21, some 4)], [(20, some 3), (22, some 5)], [(23, some 6)], [(18, some 1), (24, some 7)], [(25, some 8)], [(7, none), (26, some 9)], [(27, some 10), (26, some 9)], [(5, none), (26, some 9)], [(29, some 12), (26, some 9)], [(6, none), (26, some 9)], [(31, some 14), (26, some 9)], [(30, some 13), (32, some 15), (26, some 9)], [(28, some 11), (33, some 16), (26, some 9)], [(26, some 9), (34, some 17)], [(35, some 18)], [(7, none), (36, some 19)], [(37, some 20), (36, some 19)], [(5, none), (36, some 19)], [(39, some 22), (36, some 19)], [(6, none), (36, some 19)], [(41, some 24), (36, some 19)], [(40, some 23), (42, some 25), (36, some 19)], [(43, some 26), (36, some 19)], [(38, some 21), (44, some 27), (36, some 19)], [(36, some 19), (45, some 28)]] [(5, none), (7, none), (46, some 29)] (by kernel_rfl) [] (by decide) [some (.d (encTree (Tree.mk [120] [] [] [] [z10, z11]))), some (.d (.int .i64 z88)), some (.d (encTree z10)), some (.d (.int .i64 z89)), some (.d (encTree z11)), some (.d (.int .i64 z90)), some (.d (.int .i64 (IntKind.wrap .i64 (z89 + z90)))), some (.d (.int .i64 (IntKind.wrap .i64 ((IntKind.wrap .i64 (z89 + z90)) + 1)))), some (.d (.bool (z88 != (IntKind.wrap .i64 ((IntKind.wrap .i64 (z89 + z90)) + 1))))), some (.d (.bool false)), some (.d (encTree (Tree.mk [120] [] [] [] [z10, z11]))), some (.d (.int .i64 z92)), some (.d (encTree z10)), some (.d (.int .i64 z93)), some (.d (encTree z11)), some (.d (.int .i64 z94)), some (.d (.int .i64 (IntKind.wrap .i64 (z93 + z94)))), some (.d (.bool (z92 != (IntKind.wrap .i64 (z93 + z94))))), some (.d (.bool (z92 != (IntKind.wrap .i64 (z93 + z94))))), some (.d (.bool false)), some (.d (encTree (Tree.mk [120] [] [] [] [z10, z11]))), some (.d (.int .i64 z96)), some (.d (encTree z10)), some (.d (.int .i64 z97)), some (.d (encTree z11)), some (.d (.int .i64 z98)), some (.d (.int .i64 (maxI z97 z98))), some (.d (.int .i64 (IntKind.wrap .i64 (1 + (maxI z97 z98))))), some (.d (.bool (z96 != (IntKind.wrap .i64 (1 + (maxI z97 z98)))))), some (.d (.bool (z96 != (IntKind.wrap .i64 (1 + (maxI z97 z98))))))] ?_
        refine ⟨[0, 1, 2, 3, 4, 5, 6, 7, 8, 9, 10, 11, 12, 13, 14, 15, 16, 17, 18, 19, 20, 21, 22, 23, 24, 25, 26, 27, 28, 29], by kernel_rfl, ?_, _, rfl, ?_⟩
        ·
          refine .cons rfl rfl rfl (.step ?_) ?_
          ·
            refine wpO.val rfl (oper_load H33 (i := 0) rfl rfl (part_agg ag28 sz28 rfl)) rfl ?_
            refine wpO.less (Less.agg' (d := encTree (Tree.mk [120] [] [] [] [z10, z11])) (CellsC.eq rfl (CellsC.eq rfl (CellsC.eq rfl (CellsC.eq rfl (CellsC.eq rfl .nil))))) ((Tree.eq _).trans rfl)) ?_
            exact wpO.nil ⟨_, _, rfl, fun _ ht => by cases ht; exact ⟨rfl, .refl _⟩⟩
          refine .cons rfl rfl rfl (.step ?_) ?_
          ·
            refine wpO.ret rfl (oper_callF rfl rfl) (shape_Count_ok E _ _ _ hzz88 _ _ (ArgsC.eq .nil)) rfl ?_
            exact wpO.nil ⟨_, _, rfl, fun _ ht => by cases ht; exact ⟨rfl, .refl _⟩⟩
          refine .cons rfl rfl rfl (.step ?_) ?_
          ·
            refine wpO.val rfl (oper_load H33 (i := 2) rfl rfl (part_agg ag28 sz28 rfl)) rfl ?_
            refine wpO.less (Less.agg' (d := encTree z10) (CellsC.eq rfl (CellsC.eq rfl (CellsC.eq rfl (CellsC.eq rfl (CellsC.eq rfl .nil))))) ((Tree.eq _).trans rfl)) ?_
            exact wpO.nil ⟨_, _, rfl, fun _ ht => by cases ht; exact ⟨rfl, .refl _⟩⟩
          refine .cons rfl rfl rfl (.step ?_) ?_
          ·
            refine wpO.ret rfl (oper_callF rfl rfl) (shape_Count_ok E _ _ _ hzz89 _ _ (ArgsC.eq .nil)) rfl ?_
            exact wpO.nil ⟨_, _, rfl, fun _ ht => by cases ht; exact ⟨rfl, .refl _⟩⟩
          refine .cons rfl rfl rfl (.step ?_) ?_
          ·
            refine wpO.val rfl (oper_load H33 (i := 1) rfl rfl (part_agg ag28 sz28 rfl)) rfl ?_
            refine wpO.less (Less.agg' (d := encTree z11) (CellsC.eq rfl (CellsC.eq rfl (CellsC.eq rfl (CellsC.eq rfl (CellsC.eq rfl .nil))))) ((Tree.eq _).trans rfl)) ?_
            exact wpO.nil ⟨_, _, rfl, fun _ ht => by cases ht; exact ⟨rfl, .refl _⟩⟩
          refine .cons rfl rfl rfl (.step ?_) ?_
          ·
            refine wpO.ret rfl (oper_callF rfl rfl) (shape_Count_ok E _ _ _ hzz90 _ _ (ArgsC.eq .nil)) rfl ?_
            exact wpO.nil ⟨_, _, rfl, fun _ ht => by cases ht; exact ⟨rfl, .refl _⟩⟩
          refine .cons rfl rfl rfl (.step ?_) ?_
          ·
            refine wpO.val rfl (oper_bin rfl rfl binD_add) rfl ?_
            exact wpO.nil ⟨_, _, rfl, fun _ ht => by cases ht; exact ⟨rfl, .refl _⟩⟩
          refine .cons rfl rfl rfl (.step ?_) ?_
          ·
            refine wpO.val rfl (oper_bin rfl rfl binD_add) rfl ?_
            exact wpO.nil ⟨_, _, rfl, fun _ ht => by cases ht; exact ⟨rfl, .refl _⟩⟩
          refine .cons rfl rfl rfl (.step ?_) ?_
          ·
            refine wpO.val rfl (oper_bin rfl rfl binD_neq) rfl ?_
            exact wpO.nil ⟨_, _, rfl, fun _ ht => by cases ht; exact ⟨rfl, .refl _⟩⟩
          refine .cons rfl rfl rfl (.step ?_) ?_
          ·
            refine wpO.val rfl (oper_move rfl) rfl ?_
            exact wpO.nil ⟨_, _, rfl, fun _ ht => by cases ht; exact ⟨rfl, (.eq (by rw [hb91]))⟩⟩
          refine .cons rfl rfl rfl (.step ?_) ?_
          ·
            refine wpO.val rfl (oper_load H33 (i := 0) rfl rfl (part_agg ag28 sz28 rfl)) rfl ?_
            refine wpO.less (Less.agg' (d := encTree (Tree.mk [120] [] [] [] [z10, z11])) (CellsC.eq rfl (CellsC.eq rfl (CellsC.eq rfl (CellsC.eq rfl (CellsC.eq rfl .nil))))) ((Tree.eq _).trans rfl)) ?_
            exact wpO.nil ⟨_, _, rfl, fun _ ht => by cases ht; exact ⟨rfl, .refl _⟩⟩
          refine .cons rfl rfl rfl (.step ?_) ?_
          ·
            refine wpO.ret rfl (oper_callF rfl rfl) (shape_Slots_ok E _ _ _ hzz92 _ _ (ArgsC.eq .nil)) rfl ?_
            exact wpO.nil ⟨_, _, rfl, fun _ ht => by cases ht; exact ⟨rfl, .refl _⟩⟩
          refine .cons rfl rfl rfl (.step ?_) ?_
          ·
            refine wpO.val rfl (oper_load H33 (i := 2) rfl rfl (part_agg ag28 sz28 rfl)) rfl ?_
            refine wpO.less (Less.agg' (d := encTree z10) (CellsC.eq rfl (CellsC.eq rfl (CellsC.eq rfl (CellsC.eq rfl (CellsC.eq rfl .nil))))) ((Tree.eq _).trans rfl)) ?_
            exact wpO.nil ⟨_, _, rfl, fun _ ht => by cases ht; exact ⟨rfl, .refl _⟩⟩
          refine .cons rfl rfl rfl (.step ?_) ?_
          ·
            refine wpO.ret rfl (oper_callF rfl rfl) (shape_Slots_ok E _ _ _ hzz93 _ _ (ArgsC.eq .nil)) rfl ?_
            exact wpO.nil ⟨_, _, rfl, fun _ ht => by cases ht; exact ⟨rfl, .refl _⟩⟩
          refine .cons rfl rfl rfl (.step ?_) ?_
          ·
            refine wpO.val rfl (oper_load H33 (i := 1) rfl rfl (part_agg ag28 sz28 rfl)) rfl ?_
            refine wpO.less (Less.agg' (d := encTree z11) (CellsC.eq rfl (CellsC.eq rfl (CellsC.eq rfl (CellsC.eq rfl (CellsC.eq rfl .nil))))) ((Tree.eq _).trans rfl)) ?_
            exact wpO.nil ⟨_, _, rfl, fun _ ht => by cases ht; exact ⟨rfl, .refl _⟩⟩
          refine .cons rfl rfl rfl (.step ?_) ?_
          ·
            refine wpO.ret rfl (oper_callF rfl rfl) (shape_Slots_ok E _ _ _ hzz94 _ _ (ArgsC.eq .nil)) rfl ?_
            exact wpO.nil ⟨_, _, rfl, fun _ ht => by cases ht; exact ⟨rfl, .refl _⟩⟩
          refine .cons rfl rfl rfl (.step ?_) ?_
          ·
            refine wpO.val rfl (oper_bin rfl rfl binD_add) rfl ?_
            exact wpO.nil ⟨_, _, rfl, fun _ ht => by cases ht; exact ⟨rfl, .refl _⟩⟩
          refine .cons rfl rfl rfl (.step ?_) ?_
          ·
            refine wpO.val rfl (oper_bin rfl rfl binD_neq) rfl ?_
            exact wpO.nil ⟨_, _, rfl, fun _ ht => by cases ht; exact ⟨rfl, .refl _⟩⟩
          refine .cons rfl rfl rfl (.step ?_) ?_
          ·
            refine wpO.val rfl (oper_pick (b := false) rfl rfl) rfl ?_
            exact wpO.nil ⟨_, _, rfl, fun _ ht => by cases ht; exact ⟨rfl, .refl _⟩⟩
          refine .cons rfl rfl rfl (.step ?_) ?_
          ·
            refine wpO.val rfl (oper_move rfl) rfl ?_
            exact wpO.nil ⟨_, _, rfl, fun _ ht => by cases ht; exact ⟨rfl, (.eq (by rw [hb95]))⟩⟩
          refine .cons rfl rfl rfl (.step ?_) ?_
          ·
            refine wpO.val rfl (oper_load H33 (i := 0) rfl rfl (part_agg ag28 sz28 rfl)) rfl ?_
            refine wpO.less (Less.agg' (d := encTree (Tree.mk [120] [] [] [] [z10, z11])) (CellsC.eq rfl (CellsC.eq rfl (CellsC.eq rfl (CellsC.eq rfl (CellsC.eq rfl .nil))))) ((Tree.eq _).trans rfl)) ?_
            exact wpO.nil ⟨_, _, rfl, fun _ ht => by cases ht; exact ⟨rfl, .refl _⟩⟩
          refine .cons rfl rfl rfl (.step ?_) ?_
          ·
            refine wpO.ret rfl (oper_callF rfl rfl) (shape_Deep_ok E _ _ _ hzz96 _ _ (ArgsC.eq .nil)) rfl ?_
            exact wpO.nil ⟨_, _, rfl, fun _ ht => by cases ht; exact ⟨rfl, .refl _⟩⟩
          refine .cons rfl rfl rfl (.step ?_) ?_
          ·
            refine wpO.val rfl (oper_load H33 (i := 2) rfl rfl (part_agg ag28 sz28 rfl)) rfl ?_
            refine wpO.less (Less.agg' (d := encTree z10) (CellsC.eq rfl (CellsC.eq rfl (CellsC.eq rfl (CellsC.eq rfl (CellsC.eq rfl .nil))))) ((Tree.eq _).trans rfl)) ?_
            exact wpO.nil ⟨_, _, rfl, fun _ ht => by cases ht; exact ⟨rfl, .refl _⟩⟩
          refine .cons rfl rfl rfl (.step ?_) ?_
          ·
            refine wpO.ret rfl (oper_callF rfl rfl) (shape_Deep_ok E _ _ _ hzz97 _ _ (ArgsC.eq .nil)) rfl ?_
            exact wpO.nil ⟨_, _, rfl, fun _ ht => by cases ht; exact ⟨rfl, .refl _⟩⟩
          refine .cons rfl rfl rfl (.step ?_) ?_
          ·
            refine wpO.val rfl (oper_load H33 (i := 1) rfl rfl (part_agg ag28 sz28 rfl)) rfl ?_
            refine wpO.less (Less.agg' (d := encTree z11) (CellsC.eq rfl (CellsC.eq rfl (CellsC.eq rfl (CellsC.eq rfl (CellsC.eq rfl .nil))))) ((Tree.eq _).trans rfl)) ?_
            exact wpO.nil ⟨_, _, rfl, fun _ ht => by cases ht; exact ⟨rfl, .refl _⟩⟩
          refine .cons rfl rfl rfl (.step ?_) ?_
          ·
            refine wpO.ret rfl (oper_callF rfl rfl) (shape_Deep_ok E _ _ _ hzz98 _ _ (ArgsC.eq .nil)) rfl ?_
            exact wpO.nil ⟨_, _, rfl, fun _ ht => by cases ht; exact ⟨rfl, .refl _⟩⟩
          refine .cons rfl rfl rfl (.step ?_) ?_
          ·
            refine wpO.val rfl (oper_max rfl rfl) rfl ?_
            exact wpO.nil ⟨_, _, rfl, fun _ ht => by cases ht; exact ⟨rfl, .refl _⟩⟩
          refine .cons rfl rfl rfl (.step ?_) ?_
          ·
            refine wpO.val rfl (oper_bin rfl rfl binD_add) rfl ?_
            exact wpO.nil ⟨_, _, rfl, fun _ ht => by cases ht; exact ⟨rfl, .refl _⟩⟩
          refine .cons rfl rfl rfl (.step ?_) ?_
          ·
            refine wpO.val rfl (oper_bin rfl rfl binD_neq) rfl ?_
            exact wpO.nil ⟨_, _, rfl, fun _ ht => by cases ht; exact ⟨rfl, .refl _⟩⟩
          refine .cons rfl rfl rfl (.step ?_) ?_
          ·
            refine wpO.val rfl (oper_pick (b := false) rfl rfl) rfl ?_
            exact wpO.nil ⟨_, _, rfl, fun _ ht => by cases ht; exact ⟨rfl, .refl _⟩⟩
          exact .nil
        exact ⟨(z96 != (IntKind.wrap .i64 (1 + (maxI z97 z98)))), _, _, S32, .refl _ _, .refl _, (WeakE.cons rfl (.refl _) (WeakE.cons rfl (.refl _) (WeakE.cons rfl (.refl _) WeakE.nil))), H33.sel [0, 2] (by decide) rfl, h⟩
end
end Pr
end Go.Ev


namespace Go.Ev
namespace Pr
set_option linter.unusedVariables false
set_option linter.unusedSimpArgs false

/-! ### Laws of what the functions are made of -/
theorem w64 {n : Int} (h0 : -9223372036854775808 ≤ n) (h1 : n ≤ 9223372036854775807) : IntKind.wrap .i64 n = n := Go.IntWalk.i64_in n ⟨h0, h1⟩
theorem idx_nat {α : Type} (l : List α) (i : Nat) : idx l (i : Int) = l[i]? := by
  unfold idx
  rw [if_pos (by omega)]
  simp
theorem idx_mid {α : Type} {l done rest : List α} {z : α} (h : l = done ++ z :: rest) : idx l (done.length : Int) = some z := by
  rw [idx_nat, h]; simp
theorem idx_in {α : Type} (l : List α) {i : Int} (h0 : 0 ≤ i) (h1 : i < l.length) : ∃ x, idx l i = some x ∧ x ∈ l ∧ l[i.toNat]? = some x := by
  obtain ⟨j, rfl⟩ := Int.eq_ofNat_of_zero_le h0
  have hj : j < l.length := by omega
  exact ⟨l[j], by rw [idx_nat]; exact List.getElem?_eq_getElem hj, List.getElem_mem hj, by simp [hj]⟩
theorem app_ok {α : Type} {nb : Nat} {l ys : List α} (h : (l.length + ys.length) * nb ≤ bound) : app nb l ys = some (l ++ ys) := by
  unfold app; rw [if_pos h]
theorem remI_ok {k : IntKind} {a b : Int} (h : b ≠ 0) : remI k a b = some (a.tmod b) := by
  unfold remI; rw [if_neg h]
theorem bnd : bound = 70368744177664 := rfl
end Pr
end Go.Ev


namespace Go.Ev
namespace Pr
set_option linter.unusedVariables false
set_option linter.unusedSimpArgs false

mutual
def tcnt : Tree → Nat
  | .mk _ _ _ _ ks => 1 + lcnt ks
def lcnt : List Tree → Nat
  | [] => 0
  | t :: l => tcnt t + lcnt l
end
mutual
def tdep : Tree → Nat
  | .mk _ _ _ _ ks => 1 + ldep ks
def ldep : List Tree → Nat
  | [] => 0
  | t :: l => max (tdep t) (ldep l)
end
def isOut (s : Str) : Nat := if s = [111, 117, 116, 108, 101, 116] then 1 else 0
mutual
def tslo : Tree → Nat
  | .mk g _ _ _ ks => isOut g + lslo ks
def lslo : List Tree → Nat
  | [] => 0
  | t :: l => tslo t + lslo l
end
theorem tcnt_kids (t : Tree) : tcnt t = 1 + lcnt t.Kids := by cases t; rw [tcnt]; rfl
theorem tdep_kids (t : Tree) : tdep t = 1 + ldep t.Kids := by cases t; rw [tdep]; rfl
theorem tslo_kids (t : Tree) : tslo t = isOut t.Tag + lslo t.Kids := by cases t; rw [tslo]; rfl
theorem lcnt_len : ∀ (l : List Tree), l.length ≤ lcnt l
  | [] => Nat.le_refl _
  | x :: l => by
    have := lcnt_len l
    have := tcnt_kids x
    simp only [List.length_cons, lcnt]; omega
theorem lcnt_mem : ∀ {l : List Tree} {z : Tree}, z ∈ l → tcnt z ≤ lcnt l
  | x :: l, z, h => by
    rcases List.mem_cons.1 h with rfl | h
    · simp only [lcnt]; omega
    · have := lcnt_mem h
      simp only [lcnt]; omega
theorem lcnt_mem' {t z : Tree} (h : z ∈ t.Kids) : tcnt z < tcnt t := by
  have := lcnt_mem h
  have := tcnt_kids t; omega
theorem ldep_le : ∀ (l : List Tree), ldep l ≤ lcnt l ∧ ∀ z ∈ l, tdep z ≤ ldep l
  | [] => ⟨Nat.le_refl _, fun z h => by cases h⟩
  | x :: l => by
    obtain ⟨h1, h2⟩ := ldep_le l
    have hx : tdep x ≤ tcnt x := by
      cases x with
      | mk a b c d ks =>
        have := (ldep_le ks).1
        rw [tdep, tcnt]; omega
    refine ⟨by simp only [ldep, lcnt]; omega, fun z h => ?_⟩
    rcases List.mem_cons.1 h with rfl | h
    · simp only [ldep]; omega
    · have := h2 z h
      simp only [ldep]; omega
theorem lslo_le : ∀ (l : List Tree), lslo l ≤ lcnt l
  | [] => Nat.le_refl _
  | x :: l => by
    have h1 := lslo_le l
    have hx : tslo x ≤ tcnt x := by
      cases x with
      | mk a b c d ks =>
        have := lslo_le ks
        rw [tslo, tcnt]
        unfold isOut; split <;> omega
    simp only [lslo, lcnt]; omega

/-- What is done for each kid, by the function itself. -/
theorem kids_of {t : Tree} {m : Nat} {α : Type} {f : Nat → Tree → Option α} {g : Tree → α} (ht : tcnt t ≤ m + 1) (ih : ∀ z, tcnt z ≤ m → ∀ n, m < n → f n z = some (g z)) {n : Nat} (hn : m < n) : ∀ z ∈ t.Kids, f n z = some (g z) :=
  fun z hz => ih z (by have := lcnt_mem' hz; omega) n hn

theorem count_loop (self : Tree → Option Int) (t : Tree) (hs : ∀ z ∈ t.Kids, self z = some (tcnt z : Int)) (hb : lcnt t.Kids < 1000000000) : ∀ (rest done : List Tree) (k : Nat) (acc : Int), t.Kids = done ++ rest → rest.length < k → 0 ≤ acc → acc + lcnt rest < 2000000000 →
    shape_Count_l15 self t k acc (done.length : Int) = some (acc + lcnt rest)
  | [], done, k + 1, acc, hk, _, h0, h1 => by
    rw [shape_Count_l15, if_neg (by rw [hk]; simp)]
    simp [lcnt]
  | z :: rest, done, k + 1, acc, hk, hl, h0, h1 => by
    have hlen := lcnt_len t.Kids
    have hkl : t.Kids.length = done.length + rest.length + 1 := by rw [hk]; simp; omega
    have hz : z ∈ t.Kids := by rw [hk]; simp
    simp only [lcnt] at h1
    rw [shape_Count_l15, if_pos (by rw [decide_eq_true_eq, hkl]; omega), idx_mid hk, Option.bind_some, hs z hz, Option.bind_some]
    rw [w64 (by omega) (by omega), w64 (by omega) (by omega)]
    have := count_loop self t hs hb rest (done ++ [z]) k (acc + tcnt z) (by rw [hk]; simp) (by simp at hl; omega) (by omega) (by omega)
    rw [List.length_append, List.length_singleton] at this
    push_cast at this
    rw [this, lcnt]
    congr 1
    push_cast; omega

theorem count_ok : ∀ (m : Nat) (t : Tree), tcnt t ≤ m → m < 1000000000 → ∀ n, m < n → shape_Count n t = some (tcnt t : Int)
  | 0, t, h, _, n, _ => by rw [tcnt_kids] at h; omega
  | m + 1, t, h, hm, n + 1, hn => by
    have hs := kids_of (f := shape_Count) (g := fun z => (tcnt z : Int)) h (fun z hz n hn => count_ok m z hz (by omega) n hn) (show m < n by omega)
    have hk := tcnt_kids t
    have hlen := lcnt_len t.Kids
    rw [shape_Count]
    have := count_loop (shape_Count n) t hs (by omega) t.Kids [] n 1 rfl (by omega) (by omega) (by omega)
    simp only [List.length_nil] at this
    rw [show ((0 : Nat) : Int) = 0 from rfl] at this
    rw [this, hk]; push_cast; rfl

theorem deep_loop (self : Tree → Option Int) (t : Tree) (hs : ∀ z ∈ t.Kids, self z = some (tdep z : Int)) (hb : lcnt t.Kids < 1000000000) : ∀ (rest done : List Tree) (k : Nat) (acc : Nat), t.Kids = done ++ rest → rest.length < k → acc < 1000000000 →
    shape_Deep_l15 self t k (acc : Int) (done.length : Int) = some ((max acc (ldep rest) + 1 : Nat) : Int)
  | [], done, k + 1, acc, hk, _, h1 => by
    rw [shape_Deep_l15, if_neg (by rw [hk]; simp), w64 (by omega) (by omega)]
    simp [ldep]
  | z :: rest, done, k + 1, acc, hk, hl, h1 => by
    have hlen := lcnt_len t.Kids
    have hkl : t.Kids.length = done.length + rest.length + 1 := by rw [hk]; simp; omega
    have hz : z ∈ t.Kids := by rw [hk]; simp
    have hd := (ldep_le t.Kids).2 z hz
    have hd2 := (ldep_le t.Kids).1
    rw [shape_Deep_l15, if_pos (by rw [decide_eq_true_eq, hkl]; omega), idx_mid hk, Option.bind_some, hs z hz, Option.bind_some]
    rw [w64 (by omega) (by omega)]
    have hm : maxI (acc : Int) (tdep z : Int) = ((max acc (tdep z) : Nat) : Int) := by
      unfold maxI; split <;> omega
    have := deep_loop self t hs hb rest (done ++ [z]) k (max acc (tdep z)) (by rw [hk]; simp) (by simp at hl; omega) (by omega)
    rw [List.length_append, List.length_singleton] at this
    rw [hm]
    push_cast at this ⊢
    rw [this, ldep]
    congr 1
    omega
theorem deep_ok : ∀ (m : Nat) (t : Tree), tcnt t ≤ m → m < 1000000000 → ∀ n, m < n → shape_Deep n t = some (tdep t : Int)
  | 0, t, h, _, n, _ => by rw [tcnt_kids] at h; omega
  | m + 1, t, h, hm, n + 1, hn => by
    have hs := kids_of (f := shape_Deep) (g := fun z => (tdep z : Int)) h (fun z hz n hn => deep_ok m z hz (by omega) n hn) (show m < n by omega)
    have hk := tcnt_kids t
    have hlen := lcnt_len t.Kids
    rw [shape_Deep]
    have := deep_loop (shape_Deep n) t hs (by omega) t.Kids [] n 0 rfl (by omega) (by omega)
    simp only [List.length_nil] at this
    rw [show ((0 : Nat) : Int) = 0 from rfl] at this
    rw [this, tdep_kids]; congr 1; push_cast; omega

theorem slots_loop (self : Tree → Option Int) (t : Tree) (hs : ∀ z ∈ t.Kids, self z = some (tslo z : Int)) (hb : lcnt t.Kids < 1000000000) : ∀ (rest done : List Tree) (k : Nat) (acc : Int), t.Kids = done ++ rest → rest.length < k → 0 ≤ acc → acc + lcnt rest < 2000000000 →
    shape_Slots_l19 self t k acc (done.length : Int) = some (acc + lslo rest)
  | [], done, k + 1, acc, hk, _, h0, h1 => by
    rw [shape_Slots_l19, if_neg (by rw [hk]; simp)]
    simp [lslo]
  | z :: rest, done, k + 1, acc, hk, hl, h0, h1 => by
    have hlen := lcnt_len t.Kids
    have hkl : t.Kids.length = done.length + rest.length + 1 := by rw [hk]; simp; omega
    have hz : z ∈ t.Kids := by rw [hk]; simp
    have hzs : tslo z ≤ tcnt z := by have := lslo_le [z]; simpa [lslo, lcnt] using this
    simp only [lcnt] at h1
    rw [shape_Slots_l19, if_pos (by rw [decide_eq_true_eq, hkl]; omega), idx_mid hk, Option.bind_some, hs z hz, Option.bind_some]
    rw [w64 (by omega) (by omega), w64 (by omega) (by omega)]
    have := slots_loop self t hs hb rest (done ++ [z]) k (acc + tslo z) (by rw [hk]; simp) (by simp at hl; omega) (by omega) (by omega)
    rw [List.length_append, List.length_singleton] at this
    push_cast at this
    rw [this, lslo]
    congr 1
    push_cast; omega
theorem slots_ok : ∀ (m : Nat) (t : Tree), tcnt t ≤ m → m < 1000000000 → ∀ n, m < n → shape_Slots n t = some (tslo t : Int)
  | 0, t, h, _, n, _ => by rw [tcnt_kids] at h; omega
  | m + 1, t, h, hm, n + 1, hn => by
    have hs := kids_of (f := shape_Slots) (g := fun z => (tslo z : Int)) h (fun z hz n hn => slots_ok m z hz (by omega) n hn) (show m < n by omega)
    have hk := tcnt_kids t
    have hlen := lcnt_len t.Kids
    rw [shape_Slots, tslo_kids]
    unfold shape_Slots_j8 isOut
    by_cases ho : t.Tag = [111, 117, 116, 108, 101, 116]
    · rw [if_pos (by simpa using ho), if_pos ho]
      have := slots_loop (shape_Slots n) t hs (by omega) t.Kids [] n 1 rfl (by omega) (by omega) (by omega)
      simp only [List.length_nil] at this
      rw [show ((0 : Nat) : Int) = 0 from rfl] at this
      rw [this]; push_cast; rfl
    · rw [if_neg (by simpa using ho), if_neg ho]
      have := slots_loop (shape_Slots n) t hs (by omega) t.Kids [] n 0 rfl (by omega) (by omega) (by omega)
      simp only [List.length_nil] at this
      rw [show ((0 : Nat) : Int) = 0 from rfl] at this
      rw [this]; push_cast; rfl
end Pr
end Go.Ev


namespace Go.Ev
namespace Pr
set_option linter.unusedVariables false
set_option linter.unusedSimpArgs false

/-- Nodes and attributes. -/
def tsz : Tree → Nat
  | .mk _ _ _ ats ks => 1 + ats.length + lsz ks
  where lsz : List Tree → Nat
  | [] => 0
  | t :: l => tsz t + lsz l
theorem tsz_kids (t : Tree) : tsz t = 1 + t.Attrs.length + tsz.lsz t.Kids := by cases t; rw [tsz]; rfl
theorem lsz_mem : ∀ {l : List Tree} {z : Tree}, z ∈ l → tsz z ≤ tsz.lsz l
  | x :: l, z, h => by
    rcases List.mem_cons.1 h with rfl | h
    · simp only [tsz.lsz]; omega
    · have := lsz_mem h
      simp only [tsz.lsz]; omega
theorem lsz_len : ∀ (l : List Tree), l.length ≤ tsz.lsz l
  | [] => Nat.zero_le _
  | x :: l => by
    have := lsz_len l
    have := tsz_kids x
    simp only [List.length_cons, tsz.lsz]; omega
theorem lsz_mem' {t z : Tree} (h : z ∈ t.Kids) : tsz z < tsz t := by
  have := lsz_mem h
  have := tsz_kids t; omega
theorem tree_eta (t : Tree) : Tree.mk t.Tag t.Key t.Text t.Attrs t.Kids = t := by cases t; rfl

/-! ### A copy -/
theorem set_self {α : Type} {l : List α} {i : Int} {z : α} (h : idx l i = some z) : setI l i z = l := by
  obtain ⟨h0, h1⟩ := idx_some h
  unfold setI
  apply List.ext_getElem?
  intro j
  rw [List.getElem?_set]
  by_cases hj : i.toNat = j
  · subst hj
    have hlt := (List.getElem?_eq_some_iff.1 h1).1
    simp [hlt, h1]
    exact ((List.getElem?_eq_some_iff.1 h1).2).symm
  · simp [hj]
theorem copy_loop (self : Tree → Option Tree) (t : Tree) (ats : List Attr) (hs : ∀ z ∈ t.Kids, self z = some z) (hb : t.Kids.length < 1000000000) : ∀ (rest done : List Tree) (k : Nat), t.Kids = done ++ rest → rest.length < k →
    shape_Copy_l29 self t ats t.Kids k t.Kids (done.length : Int) = some (Tree.mk t.Tag t.Key t.Text ats t.Kids)
  | [], done, k + 1, hk, _ => by
    rw [shape_Copy_l29, if_neg (by rw [hk]; simp)]
  | z :: rest, done, k + 1, hk, hl => by
    have hkl : t.Kids.length = done.length + rest.length + 1 := by rw [hk]; simp; omega
    have hz : z ∈ t.Kids := by rw [hk]; simp
    rw [shape_Copy_l29, if_pos (by rw [decide_eq_true_eq, hkl]; omega), idx_mid hk, Option.bind_some, hs z hz, Option.bind_some, Option.bind_some]
    rw [w64 (by omega) (by omega), set_self (idx_mid hk)]
    have := copy_loop self t ats hs hb rest (done ++ [z]) k (by rw [hk]; simp) (by simp at hl; omega)
    rw [List.length_append, List.length_singleton] at this
    push_cast at this
    exact this
theorem copy_ok : ∀ (m : Nat) (t : Tree), tsz t ≤ m → m < 1000000 → ∀ n, m < n → shape_Copy n t = some t
  | 0, t, h, _, n, _ => by rw [tsz_kids] at h; omega
  | m + 1, t, h, hm, n + 1, hn => by
    have hs : ∀ z ∈ t.Kids, shape_Copy n z = some z := fun z hz => copy_ok m z (by have := lsz_mem' hz; omega) (by omega) n (by omega)
    have hk := tsz_kids t
    have hlen := lsz_len t.Kids
    rw [shape_Copy]
    unfold slices_Clone__api_Attr_api_Attr_ slices_Clone__api_Tree_api_Tree_
    rw [app_ok (by rw [bnd]; simp only [List.length_nil]; omega), Option.bind_some, app_ok (by rw [bnd]; simp only [List.length_nil]; omega), Option.bind_some, List.nil_append, List.nil_append]
    have := copy_loop (shape_Copy n) t t.Attrs hs (by omega) t.Kids [] n rfl (by omega)
    simp only [List.length_nil] at this
    rw [show ((0 : Nat) : Int) = 0 from rfl] at this
    rw [this, tree_eta]

/-! ### Are they the same? -/
def abeq : List Attr → List Attr → Bool
  | [], [] => true
  | a :: l, b :: m => Attr.beq a b && abeq l m
  | _, _ => false
def tbeq : Tree → Tree → Bool
  | .mk a b c d e, .mk a' b' c' d' e' => (a == a') && (b == b') && (c == c') && abeq d d' && lbeq e e'
  where lbeq : List Tree → List Tree → Bool
  | [], [] => true
  | x :: l, y :: m => tbeq x y && lbeq l m
  | _, _ => false
theorem abeq_len : ∀ {a b : List Attr}, abeq a b = true → a.length = b.length
  | [], [], _ => rfl
  | x :: l, y :: m, h => by
    simp only [abeq, Bool.and_eq_true] at h
    simp [abeq_len h.2]
  | [], _ :: _, h => by cases h
  | _ :: _, [], h => by cases h
theorem lbeq_len : ∀ {a b : List Tree}, tbeq.lbeq a b = true → a.length = b.length
  | [], [], _ => rfl
  | x :: l, y :: m, h => by
    simp only [tbeq.lbeq, Bool.and_eq_true] at h
    simp [lbeq_len h.2]
  | [], _ :: _, h => by cases h
  | _ :: _, [], h => by cases h
theorem abeq_ne {a b : List Attr} (h : a.length ≠ b.length) : abeq a b = false := by
  cases hq : abeq a b
  · rfl
  · exact absurd (abeq_len hq) h
theorem lbeq_ne {a b : List Tree} (h : a.length ≠ b.length) : tbeq.lbeq a b = false := by
  cases hq : tbeq.lbeq a b
  · rfl
  · exact absurd (lbeq_len hq) h
theorem tbeq_eq (a b : Tree) : tbeq a b = ((a.Tag == b.Tag) && (a.Key == b.Key) && (a.Text == b.Text) && abeq a.Attrs b.Attrs && tbeq.lbeq a.Kids b.Kids) := by cases a; cases b; rw [tbeq]; rfl

theorem equal_loop (l m : List Attr) (hb : l.length < 1000000000) : ∀ (r s d e : List Attr) (k : Nat), l = d ++ r → m = e ++ s → d.length = e.length → r.length = s.length → r.length < k →
    slices_Equal__api_Attr_api_Attr__l12 l m k (d.length : Int) = some (abeq r s)
  | [], [], d, e, k + 1, hl, hm, _, _, _ => by
    rw [slices_Equal__api_Attr_api_Attr__l12, if_neg (by rw [hl]; simp)]; rfl
  | z :: r, y :: s, d, e, k + 1, hl, hm, hd, hr, hk => by
    have hkl : l.length = d.length + r.length + 1 := by rw [hl]; simp; omega
    rw [slices_Equal__api_Attr_api_Attr__l12, if_pos (by rw [decide_eq_true_eq, hkl]; omega), idx_mid hl, Option.bind_some, hd, idx_mid hm, Option.bind_some]
    cases hq : Attr.beq z y
    · simp [abeq, hq]
    · simp only [Bool.not_true, Bool.false_eq_true, if_false]
      rw [w64 (by omega) (by omega)]
      have := equal_loop l m hb r s (d ++ [z]) (e ++ [y]) k (by rw [hl]; simp) (by rw [hm]; simp) (by simp [hd]) (by simpa using hr) (by simp at hk; omega)
      rw [List.length_append, List.length_singleton, hd] at this
      push_cast at this
      rw [this]; simp [abeq, hq]
  | [], _ :: _, d, e, k + 1, _, _, _, hr, _ => by simp at hr
  | _ :: _, [], d, e, k + 1, _, _, _, hr, _ => by simp at hr
theorem equal_ok (n : Nat) (l m : List Attr) (hb : l.length < 1000000000) (hn : l.length < n) : slices_Equal__api_Attr_api_Attr_ n l m = some (abeq l m) := by
  unfold slices_Equal__api_Attr_api_Attr_
  by_cases h : l.length = m.length
  · rw [if_neg (by simp [h])]
    exact equal_loop l m hb l m [] [] n rfl rfl rfl h hn
  · rw [if_pos (by simp; omega), abeq_ne h]
theorem eqf_loop (f : Tree → Tree → Option Bool) (l m : List Tree) (hf : ∀ x ∈ l, ∀ y, f x y = some (tbeq x y)) (hb : l.length < 1000000000) : ∀ (r s d e : List Tree) (k : Nat), l = d ++ r → m = e ++ s → d.length = e.length → r.length = s.length → r.length < k →
    slices_EqualFunc__api_Tree__api_Tree_api_Tree_api_Tree__l15 l m f k (d.length : Int) = some (tbeq.lbeq r s)
  | [], [], d, e, k + 1, hl, hm, _, _, _ => by
    rw [slices_EqualFunc__api_Tree__api_Tree_api_Tree_api_Tree__l15, if_neg (by rw [hl]; simp)]; rfl
  | z :: r, y :: s, d, e, k + 1, hl, hm, hd, hr, hk => by
    have hkl : l.length = d.length + r.length + 1 := by rw [hl]; simp; omega
    rw [slices_EqualFunc__api_Tree__api_Tree_api_Tree_api_Tree__l15, if_pos (by rw [decide_eq_true_eq, hkl]; omega), idx_mid hl, Option.bind_some, hd, idx_mid hm, Option.bind_some, hf z (by rw [hl]; simp), Option.bind_some]
    cases hq : tbeq z y
    · simp [tbeq.lbeq, hq]
    · simp only [Bool.not_true, Bool.false_eq_true, if_false]
      rw [w64 (by omega) (by omega)]
      have := eqf_loop f l m hf hb r s (d ++ [z]) (e ++ [y]) k (by rw [hl]; simp) (by rw [hm]; simp) (by simp [hd]) (by simpa using hr) (by simp at hk; omega)
      rw [List.length_append, List.length_singleton, hd] at this
      push_cast at this
      rw [this]; simp [tbeq.lbeq, hq]
  | [], _ :: _, d, e, k + 1, _, _, _, hr, _ => by simp at hr
  | _ :: _, [], d, e, k + 1, _, _, _, hr, _ => by simp at hr
theorem same_ok : ∀ (m : Nat) (t u : Tree), tsz t ≤ m → m < 1000000 → ∀ n, m < n → shape_Same n t u = some (tbeq t u)
  | 0, t, u, h, _, n, _ => by rw [tsz_kids] at h; omega
  | m + 1, t, u, h, hm, n + 1, hn => by
    have hk := tsz_kids t
    have hlen := lsz_len t.Kids
    have hf : ∀ x ∈ t.Kids, ∀ y, shape_Same n x y = some (tbeq x y) := fun x hx y => same_ok m x y (by have := lsz_mem' hx; omega) (by omega) n (by omega)
    rw [shape_Same, tbeq_eq]
    cases h3 : ((t.Tag == u.Tag) && (t.Key == u.Key) && (t.Text == u.Text))
    · simp
    · simp only [if_true, Bool.true_and]
      rw [equal_ok n _ _ (by omega) (by omega), Option.bind_some, Option.bind_some]
      cases h4 : abeq t.Attrs u.Attrs
      · simp
      · simp only [if_true, Bool.true_and]
        unfold slices_EqualFunc__api_Tree__api_Tree_api_Tree_api_Tree_
        by_cases hl : t.Kids.length = u.Kids.length
        · rw [if_neg (by simp [hl])]
          have := eqf_loop (shape_Same n) t.Kids u.Kids hf (by omega) t.Kids u.Kids [] [] n rfl rfl rfl hl (by omega)
          simp only [List.length_nil] at this
          rw [show ((0 : Nat) : Int) = 0 from rfl] at this
          rw [this]; rfl
        · rw [if_pos (by simp; omega), lbeq_ne hl]; rfl
theorem attr_refl (a : Attr) : Attr.beq a a = true := by simp [Attr.beq]
theorem abeq_refl : ∀ (l : List Attr), abeq l l = true
  | [] => rfl
  | a :: l => by simp [abeq, attr_refl, abeq_refl l]
theorem tbeq_refl : ∀ (t : Tree), tbeq t t = true
  | .mk a b c d e => by
    rw [tbeq, abeq_refl]
    have := go e
    simp [this]
  where go : ∀ (l : List Tree), tbeq.lbeq l l = true
  | [] => rfl
  | x :: l => by rw [tbeq.lbeq, tbeq_refl x, go l]; rfl
end Pr
end Go.Ev


namespace Go.Ev
namespace Pr
set_option linter.unusedVariables false
set_option linter.unusedSimpArgs false

/-! ### Right trees -/
def letters : Str := [97, 98, 99, 100, 101, 102, 103, 104, 105, 106, 107, 108, 109, 110, 111, 112, 113, 114, 115, 116, 117, 118, 119, 120, 121, 122, 48, 49, 50, 51, 52, 53, 54, 55, 56, 57]
def tagOk (s : Str) : Bool := !(s == []) && decide (s.length ≤ 16) && (strings_Trim 0 s letters == some []) && !(s == [122, 122])
def attrsOk (l : List Attr) : Prop := l = [] ∨ ∃ a, l = [a] ∧ a.Name ≠ [] ∧ a.Name.length ≤ 64 ∧ a.Value.length ≤ 64
def nodeOk (t : Tree) : Prop := (t.Tag = [] ∧ t.Key = [] ∧ t.Attrs = [] ∧ t.Kids = [] ∧ t.Text.length ≤ 64) ∨ (tagOk t.Tag = true ∧ t.Text = [] ∧ t.Key.length ≤ 64 ∧ attrsOk t.Attrs ∧ t.Kids.length ≤ 24)
def tgood : Tree → Prop
  | .mk a b c d e => nodeOk (.mk a b c d e) ∧ lg e
  where lg : List Tree → Prop
  | [] => True
  | x :: l => tgood x ∧ lg l
theorem tgood_iff (t : Tree) : tgood t ↔ nodeOk t ∧ tgood.lg t.Kids := by cases t; rw [tgood]; rfl
theorem lg_mem : ∀ {l : List Tree}, tgood.lg l ↔ ∀ z ∈ l, tgood z
  | [] => ⟨fun _ z h => (by cases h), fun _ => trivial⟩
  | x :: l => by
    rw [tgood.lg, lg_mem]
    exact ⟨fun h z hz => by rcases List.mem_cons.1 hz with rfl | hz; exact h.1; exact h.2 z hz, fun h => ⟨h x List.mem_cons_self, fun z hz => h z (List.mem_cons_of_mem _ hz)⟩⟩
theorem tsz_le : ∀ (m : Nat) (t : Tree), tcnt t ≤ m → tgood t → tsz t ≤ 2 * tcnt t
  | 0, t, h, _ => by rw [tcnt_kids] at h; omega
  | m + 1, t, h, hg => by
    obtain ⟨h1, h2⟩ := (tgood_iff t).1 hg
    have hl : ∀ (l : List Tree), (∀ z ∈ l, z ∈ t.Kids) → tsz.lsz l ≤ 2 * lcnt l := by
      intro l
      induction l with
      | nil => intro _; simp [tsz.lsz, lcnt]
      | cons x l ih =>
        intro hm
        have hx := hm x List.mem_cons_self
        have := tsz_le m x (by have := lcnt_mem' hx; omega) (lg_mem.1 h2 x hx)
        have := ih (fun z hz => hm z (List.mem_cons_of_mem _ hz))
        simp only [tsz.lsz, lcnt]; omega
    have ha : t.Attrs.length ≤ 1 := by
      rcases h1 with h1 | h1
      · rw [h1.2.2.1]; simp
      · rcases h1.2.2.2.1 with h | ⟨a, h, _⟩ <;> rw [h] <;> simp
    have := hl t.Kids (fun z hz => hz)
    rw [tsz_kids, tcnt_kids]; omega

theorem element_ok (n : Nat) (hn : 5 ≤ n) (t : Tree) (h1 : tagOk t.Tag = true) (h2 : t.Text = []) (h3 : t.Key.length ≤ 64) (h4 : attrsOk t.Attrs) (h5 : t.Kids.length ≤ 24) : shape_element n t = some true := by
  simp only [tagOk, Bool.and_eq_true, Bool.not_eq_true', decide_eq_true_eq] at h1
  obtain ⟨⟨⟨g1, g2⟩, g3⟩, _⟩ := h1
  have g3 := eq_of_beq g3
  unfold shape_element
  rw [if_neg (by rw [decide_eq_true_eq]; omega)]
  have : strings_Trim n t.Tag [97, 98, 99, 100, 101, 102, 103, 104, 105, 106, 107, 108, 109, 110, 111, 112, 113, 114, 115, 116, 117, 118, 119, 120, 121, 122, 48, 49, 50, 51, 52, 53, 54, 55, 56, 57] = some [] := g3
  rw [this, Option.bind_some, Option.bind_some]
  rw [h2]
  rw [if_neg (by simp; omega)]
  obtain ⟨k, rfl⟩ : ∃ k, n = k + 5 := ⟨n - 5, by omega⟩
  rcases h4 with h | ⟨a, h, a1, a2, a3⟩
  · rw [shape_element_l20, if_neg (by rw [h]; simp)]
  · rw [shape_element_l20, if_pos (by rw [h]; simp)]
    have e0 : idx t.Attrs 0 = some a := by rw [h]; rfl
    have e1 : cut t.Attrs 0 0 = some [] := by rw [h]; rfl
    rw [e0, Option.bind_some, if_neg (by simp [a1]; omega), e1, Option.bind_some]
    have e2 : slices_ContainsFunc__api_Attr_api_Attr_ (k + 5) [] (fun y31 => shape_element_1 (k + 5) y31 a) = some false := by
      unfold slices_ContainsFunc__api_Attr_api_Attr_ slices_IndexFunc__api_Attr_api_Attr_
      rw [slices_IndexFunc__api_Attr_api_Attr__l13, if_neg (by simp)]; rfl
    rw [e2, Option.bind_some, Option.bind_some, if_neg (by simp)]
    rw [shape_element_l20, if_neg (by rw [h, w64 (by omega) (by omega)]; simp)]
theorem right_loop (f : Tree → Option Bool) (t : Tree) (hf : ∀ x ∈ t.Kids, f x = some true) (hb : t.Kids.length < 1000000000) : ∀ (r d : List Tree) (k : Nat), t.Kids = d ++ r → r.length < k →
    shape_right_l19 f t k (d.length : Int) = some true
  | [], d, k + 1, hl, _ => by rw [shape_right_l19, if_neg (by rw [hl]; simp)]
  | z :: r, d, k + 1, hl, hk => by
    have hkl : t.Kids.length = d.length + r.length + 1 := by rw [hl]; simp; omega
    rw [shape_right_l19, if_pos (by rw [decide_eq_true_eq, hkl]; omega), idx_mid hl, Option.bind_some, hf z (by rw [hl]; simp), Option.bind_some, if_neg (by simp)]
    rw [w64 (by omega) (by omega)]
    have := right_loop f t hf hb r (d ++ [z]) k (by rw [hl]; simp) (by simp at hk; omega)
    rw [List.length_append, List.length_singleton] at this
    push_cast at this
    exact this
theorem right_ok : ∀ (m : Nat) (t : Tree), tcnt t ≤ m → tgood t → m < 1000000 → ∀ n, m + 30 < n → shape_right n t = some true
  | 0, t, h, _, _, n, _ => by rw [tcnt_kids] at h; omega
  | m + 1, t, h, hg, hm, n + 1, hn => by
    obtain ⟨h1, h2⟩ := (tgood_iff t).1 hg
    have hf : ∀ x ∈ t.Kids, shape_right n x = some true := fun x hx => right_ok m x (by have := lcnt_mem' hx; omega) (lg_mem.1 h2 x hx) (by omega) n (by omega)
    rw [shape_right]
    rcases h1 with ⟨a1, a2, a3, a4, a5⟩ | ⟨a1, a2, a3, a4, a5⟩
    · rw [if_pos (by simp [a1]), a2, a3, a4]; simp; omega
    · have hne : t.Tag ≠ [] := fun q => by rw [q] at a1; simp [tagOk] at a1
      rw [if_neg (by simp [hne]), element_ok n (by omega) t a1 a2 a3 a4 a5, Option.bind_some, if_neg (by simp)]
      have := right_loop (shape_right n) t hf (by omega) t.Kids [] n rfl (by omega)
      simp only [List.length_nil] at this
      exact this
theorem Right_ok (n : Nat) (t : Tree) (hn : 200 < n) (hc : tcnt t ≤ 100) (hg : tgood t) : shape_Right n t = some (decide (tcnt t ≤ 60) && decide (tdep t ≤ 12)) := by
  unfold shape_Right
  rw [right_ok 100 t hc hg (by omega) n (by omega), Option.bind_some, if_pos rfl, count_ok 100 t hc (by omega) n (by omega), Option.bind_some, Option.bind_some]
  by_cases h1 : tcnt t ≤ 60
  · rw [if_pos (by rw [decide_eq_true_eq]; omega), deep_ok 100 t hc (by omega) n (by omega), Option.bind_some, Option.bind_some]
    by_cases h2 : tdep t ≤ 12
    · simp [h1, h2]; omega
    · simp [h1, h2]; omega
  · rw [if_neg (by rw [decide_eq_true_eq]; omega)]; simp [h1]

/-! ### Numbers brought into bounds -/
theorem within_ok (n : Nat) (a lo hi : Int) (h1 : lo ≤ hi) (h2 : -1000000000000 ≤ lo) (h3 : hi ≤ 1000000000000000) : ∃ r, porticobook_Within n a lo hi = some r ∧ lo ≤ r ∧ r ≤ hi := by
  unfold porticobook_Within
  rw [w64 (n := hi - lo) (by omega) (by omega), w64 (by omega) (by omega), remI_ok (by omega), Option.bind_some]
  have k1 := Int.tmod_lt_of_pos a (show 0 < hi - lo + 1 by omega)
  have k2 := Int.lt_tmod_of_pos a (show 0 < hi - lo + 1 by omega)
  unfold porticobook_Within_j8
  by_cases hz : a.tmod (hi - lo + 1) < 0
  · rw [if_pos (by simpa using hz)]
    rw [w64 (n := a.tmod (hi - lo + 1) + hi) (by omega) (by omega), w64 (n := a.tmod (hi - lo + 1) + hi - lo) (by omega) (by omega), w64 (n := a.tmod (hi - lo + 1) + hi - lo + 1) (by omega) (by omega), w64 (by omega) (by omega)]
    exact ⟨_, rfl, by omega, by omega⟩
  · rw [if_neg (by simpa using hz), w64 (by omega) (by omega)]
    exact ⟨_, rfl, by omega, by omega⟩
theorem pick_ok (n : Nat) (l : List Int) (i : Int) (h : 0 ≤ i) : ∃ r, porticokeep_pick n l i = some r := by
  unfold porticokeep_pick
  by_cases h0 : l.length = 0
  · rw [if_pos (by simp; exact List.eq_nil_of_length_eq_zero h0)]; exact ⟨_, rfl⟩
  · rw [if_neg (by simp; intro q; exact h0 (by rw [q]; rfl)), remI_ok (by omega), Option.bind_some]
    have hp : (0 : Int) < (l.length : Int) := by omega
    obtain ⟨x, hx, _⟩ := idx_in l (i := i.tmod l.length) (Int.tmod_nonneg _ h) (Int.tmod_lt_of_pos _ hp)
    exact ⟨x, by rw [hx]; rfl⟩
end Pr
end Go.Ev


namespace Go.Ev
namespace Pr
set_option linter.unusedVariables false
set_option linter.unusedSimpArgs false

/-! ### A tree out of a row of nodes -/
def n0ok (t : Tree0) : Prop := (t.Tag = [] ∧ t.Key = [] ∧ t.Attrs = [] ∧ t.Text.length ≤ 64) ∨ (tagOk t.Tag = true ∧ t.Text = [] ∧ t.Key.length ≤ 64 ∧ attrsOk t.Attrs)

/-- Nodes that stand below one another, each behind its parent; how deep each is. -/
structure Wd (nodes : List Tree0) (under : List Int) (lv : List Nat) : Prop where
  lu : under.length = nodes.length
  ll : lv.length = nodes.length
  pos : 0 < nodes.length
  le : nodes.length ≤ 13
  ok : ∀ (j : Nat) (t : Tree0), nodes[j]? = some t → n0ok t
  root : under[0]? = some (-1) ∧ lv[0]? = some 1
  par : ∀ (j : Nat), 0 < j → j < nodes.length → ∃ (p : Nat) (t : Tree0) (v : Nat), under[j]? = some (p : Int) ∧ p < j ∧ nodes[p]? = some t ∧ t.Tag ≠ [] ∧ lv[p]? = some v ∧ lv[j]? = some (v + 1)
  lim : ∀ (j v : Nat), lv[j]? = some v → v ≤ 7 ∧ 1 ≤ v

section
variable {nodes : List Tree0} {under : List Int} {lv : List Nat}

theorem deep_at (h : Wd nodes under lv) : ∀ (m j v : Nat), j ≤ m → lv[j]? = some v → ∀ (k : Nat) (acc : Int), v + 1 < k → 0 ≤ acc → acc + v ≤ 60 → porticokeep_deep_l13 under k (j : Int) acc = some (acc + v)
  | m, 0, v, _, hv, k + 2, acc, hk, h0, h1 => by
    have hr := h.root
    rw [hr.2] at hv; cases hv
    rw [porticokeep_deep_l13, if_pos (by simp; omega)]
    have : idx under ((0 : Nat) : Int) = some (-1) := by rw [idx_nat]; exact hr.1
    rw [this, Option.bind_some, w64 (by omega) (by omega), porticokeep_deep_l13, if_neg (by simp)]
    rfl
  | m + 1, j + 1, v, hj, hv, k + 1, acc, hk, h0, h1 => by
    have hjl : j + 1 < nodes.length := by
      have := (List.getElem?_eq_some_iff.1 hv).1
      rw [h.ll] at this; exact this
    obtain ⟨p, t, v', hu, hp, _, _, hvp, hvj⟩ := h.par (j + 1) (by omega) hjl
    rw [hv] at hvj; cases hvj
    have hl := (h.lim (j + 1) (v' + 1) hv).1
    rw [porticokeep_deep_l13, if_pos (by simp; omega)]
    have : idx under ((j + 1 : Nat) : Int) = some (p : Int) := by rw [idx_nat]; exact hu
    rw [this, Option.bind_some, w64 (by omega) (by omega)]
    rw [deep_at h m p v' (by omega) hvp k (acc + 1) (by omega) (by omega) (by omega)]
    congr 1
    push_cast; omega
  | m, 0, v, _, hv, 1, acc, hk, _, _ => by omega
theorem deep0_ok (h : Wd nodes under lv) (n : Nat) (hn : 20 < n) {j v : Nat} (hv : lv[j]? = some v) : porticokeep_deep n under (j : Int) = some (v : Int) := by
  have hl := (h.lim j v hv).1
  unfold porticokeep_deep
  rw [deep_at h j j v (Nat.le_refl _) hv n 0 (by omega) (by omega) (by omega)]
  simp

/-- The kids of a node, from a place on. -/
def kidsF (under : List Int) (at_ : Nat) (l : List Nat) : List Nat := l.filter fun j => under[j]? == some (at_ : Int)
def growP (nodes : List Tree0) (under : List Int) : Nat → Nat → Tree
  | 0, _ => .mk [] [] [] [] []
  | f + 1, j => match nodes[j]? with
    | some t => .mk t.Tag t.Key t.Text t.Attrs ((kidsF under j (List.range nodes.length)).map (growP nodes under f))
    | none => .mk [] [] [] [] []
theorem kids_gt (h : Wd nodes under lv) {j i : Nat} {l : List Nat} (hi : i ∈ kidsF under j l) : i < nodes.length ∧ j < i ∧ ∃ v, lv[j]? = some v ∧ lv[i]? = some (v + 1) ∧ ∃ t, nodes[j]? = some t ∧ t.Tag ≠ [] := by
  obtain ⟨_, h2⟩ := List.mem_filter.1 hi
  have h2 := eq_of_beq h2
  have hil : i < nodes.length := by rw [← h.lu]; exact (List.getElem?_eq_some_iff.1 h2).1
  cases i with
  | zero => rw [h.root.1] at h2; cases h2
  | succ i =>
    obtain ⟨p, t, v, hu, hp, ht, htg, hvp, hvj⟩ := h.par (i + 1) (by omega) hil
    rw [hu] at h2
    have : p = j := by have := Option.some.inj h2; omega
    subst this
    exact ⟨hil, hp, v, hvp, hvj, t, ht, htg⟩
theorem growP_st (h : Wd nodes under lv) : ∀ (f g j : Nat), j < nodes.length → nodes.length ≤ j + f → nodes.length ≤ j + g → growP nodes under f j = growP nodes under g j
  | 0, g, j, hj, hf, _ => by omega
  | f + 1, 0, j, hj, _, hg => by omega
  | f + 1, g + 1, j, hj, hf, hg => by
    rw [growP, growP]
    split
    · congr 1
      apply List.map_congr_left
      intro i hi
      obtain ⟨h1, h2, _⟩ := kids_gt h hi
      exact growP_st h f g i h1 (by omega) (by omega)
    · rfl
def gt (nodes : List Tree0) (under : List Int) (j : Nat) : Tree := growP nodes under (nodes.length + 1) j
theorem gt_eq (h : Wd nodes under lv) {j : Nat} {t : Tree0} (ht : nodes[j]? = some t) : gt nodes under j = .mk t.Tag t.Key t.Text t.Attrs ((kidsF under j (List.range nodes.length)).map (gt nodes under)) := by
  unfold gt
  rw [growP]
  simp only [ht]
  congr 1
  apply List.map_congr_left
  intro i hi
  obtain ⟨h1, h2, _⟩ := kids_gt h hi
  exact growP_st h _ _ i h1 (by omega) (by omega)

theorem grow_loop (h : Wd nodes under lv) (self : List Tree0 → List Int → Int → Option Tree) (j : Nat) (z : Tree0) (hs : ∀ i, i < nodes.length → j < i → self nodes under (i : Int) = some (gt nodes under i)) : ∀ (m i k : Nat) (acc : List Tree), nodes.length = i + m → m < k → acc.length ≤ i →
    porticokeep_grow_l25 self nodes under (j : Int) z k acc (i : Int) = some (.mk z.Tag z.Key z.Text z.Attrs (acc ++ (kidsF under j (List.range' i m)).map (gt nodes under)))
  | 0, i, k + 1, acc, hm, _, _ => by
    rw [porticokeep_grow_l25, if_neg (by rw [hm]; simp)]
    simp [kidsF]
  | m + 1, i, k + 1, acc, hm, hk, ha => by
    have hle := h.le
    have hil : i < under.length := by rw [h.lu]; omega
    rw [porticokeep_grow_l25, if_pos (by rw [hm]; simp; omega), idx_nat, List.getElem?_eq_getElem hil, Option.bind_some]
    rw [List.range'_succ]
    by_cases hu : under[i] = (j : Int)
    · have hin : i ∈ kidsF under j [i] := by simp [kidsF, hil, hu]
      obtain ⟨g1, g2, _⟩ := kids_gt h hin
      rw [if_pos (by simpa using hu), hs i g1 g2, Option.bind_some, app_ok (by rw [bnd]; simp; omega), Option.bind_some]
      unfold porticokeep_grow_j31
      rw [w64 (by omega) (by omega)]
      have := grow_loop h self j z hs m (i + 1) k (acc ++ [gt nodes under i]) (by omega) (by omega) (by simp; omega)
      push_cast at this
      rw [this]
      have : kidsF under j (i :: List.range' (i + 1) m) = i :: kidsF under j (List.range' (i + 1) m) := by
        unfold kidsF; rw [List.filter_cons, if_pos (by simp [hil, hu])]
      rw [this]; simp
    · rw [if_neg (by simpa using hu)]
      unfold porticokeep_grow_j31
      rw [w64 (by omega) (by omega)]
      have := grow_loop h self j z hs m (i + 1) k acc (by omega) (by omega) (by omega)
      push_cast at this
      rw [this]
      have : kidsF under j (i :: List.range' (i + 1) m) = kidsF under j (List.range' (i + 1) m) := by
        unfold kidsF; rw [List.filter_cons, if_neg (by simp [hil, hu])]
      rw [this]
theorem grow_ok (h : Wd nodes under lv) : ∀ (n j : Nat), j < nodes.length → 2 * nodes.length + 2 ≤ j + n → porticokeep_grow n nodes under (j : Int) = some (gt nodes under j)
  | 0, j, hj, hn => by omega
  | n + 1, j, hj, hn => by
    rw [porticokeep_grow, idx_nat, List.getElem?_eq_getElem hj, Option.bind_some]
    have := grow_loop h (porticokeep_grow n) j nodes[j] (fun i hi hji => grow_ok h n i hi (by omega)) nodes.length 0 n [] (by omega) (by omega) (by simp)
    rw [show ((0 : Nat) : Int) = 0 from rfl] at this
    rw [this, gt_eq h (List.getElem?_eq_getElem hj), List.range_eq_range']
    rfl

/-! #### .. its depth, its size -/
theorem gt_good (h : Wd nodes under lv) : ∀ (m j v : Nat), nodes.length ≤ j + m → lv[j]? = some v → tgood (gt nodes under j) ∧ tdep (gt nodes under j) + v ≤ 8
  | 0, j, v, hm, hv => by
    have := (List.getElem?_eq_some_iff.1 hv).1
    rw [h.ll] at this; omega
  | m + 1, j, v, hm, hv => by
    have hj : j < nodes.length := by rw [← h.ll]; exact (List.getElem?_eq_some_iff.1 hv).1
    have ht := List.getElem?_eq_getElem hj
    have hv7 := h.lim j v hv
    rw [gt_eq h ht]
    have hk : ∀ i ∈ kidsF under j (List.range nodes.length), tgood (gt nodes under i) ∧ tdep (gt nodes under i) + (v + 1) ≤ 8 := fun i hi => by
      obtain ⟨g1, g2, v', g3, g4, _⟩ := kids_gt h hi
      rw [hv] at g3; cases g3
      exact gt_good h m i (v + 1) (by omega) g4
    have hlen : (kidsF under j (List.range nodes.length)).length ≤ 13 := by
      have := List.length_filter_le (fun i => under[i]? == some (j : Int)) (List.range nodes.length)
      rw [List.length_range] at this
      have := h.le
      unfold kidsF; omega
    refine ⟨(tgood_iff _).2 ⟨?_, ?_⟩, ?_⟩
    · rcases h.ok j _ ht with ⟨a1, a2, a3, a4⟩ | ⟨a1, a2, a3, a4⟩
      · refine .inl ⟨a1, a2, a3, ?_, a4⟩
        show List.map _ _ = []
        rw [List.map_eq_nil_iff]
        cases hq : kidsF under j (List.range nodes.length) with
        | nil => rfl
        | cons i l =>
          obtain ⟨_, _, _, _, _, t, q1, q2⟩ := kids_gt h (l := List.range nodes.length) (i := i) (j := j) (by rw [hq]; simp)
          rw [ht] at q1; cases q1
          exact absurd a1 q2
      · refine .inr ⟨a1, a2, a3, a4, ?_⟩
        show (List.map _ _).length ≤ 24
        rw [List.length_map]; omega
    · show tgood.lg (List.map _ _)
      rw [lg_mem]
      intro z hz
      obtain ⟨i, hi, rfl⟩ := List.mem_map.1 hz
      exact (hk i hi).1
    · rw [tdep]
      have : ∀ (l : List Nat), (∀ i ∈ l, tdep (gt nodes under i) + (v + 1) ≤ 8) → ldep (l.map (gt nodes under)) + (v + 1) ≤ 8 := by
        intro l
        induction l with
        | nil => intro _; simp only [List.map_nil, ldep]; omega
        | cons i l ih =>
          intro hl
          have h1 := hl i List.mem_cons_self
          have h2 := ih (fun i hi => hl i (List.mem_cons_of_mem _ hi))
          simp only [List.map_cons, ldep]; omega
      have := this _ (fun i hi => (hk i hi).2)
      omega

def sumIf (p : Nat → Bool) (f : Nat → Nat) : List Nat → Nat
  | [] => 0
  | i :: l => (if p i then f i else 0) + sumIf p f l
theorem sumIf_kids (f : Nat → Tree) (p : Nat → Bool) : ∀ (l : List Nat), lcnt ((l.filter p).map f) = sumIf p (fun i => tcnt (f i)) l
  | [] => rfl
  | i :: l => by
    rw [List.filter_cons, sumIf]
    by_cases h : p i = true
    · rw [if_pos h, if_pos h, List.map_cons, lcnt, sumIf_kids f p l]
    · rw [if_neg h, if_neg h, sumIf_kids f p l]; omega
theorem sumIf_split (f : Nat → Nat) (p q r : Nat → Bool) : ∀ (l : List Nat), (∀ i ∈ l, p i = (q i || r i) ∧ (q i && r i) = false) → sumIf p f l = sumIf q f l + sumIf r f l
  | [], _ => rfl
  | i :: l, h => by
    obtain ⟨h1, h2⟩ := h i List.mem_cons_self
    have ih := sumIf_split f p q r l (fun i hi => h i (List.mem_cons_of_mem _ hi))
    rw [sumIf, sumIf, sumIf, h1, ih]
    cases hq : q i <;> cases hr : r i <;> simp_all <;> omega
theorem sumIf_none (f : Nat → Nat) (p : Nat → Bool) : ∀ (l : List Nat), (∀ i ∈ l, p i = false) → sumIf p f l = 0
  | [], _ => rfl
  | i :: l, h => by
    rw [sumIf, h i List.mem_cons_self, sumIf_none f p l (fun i hi => h i (List.mem_cons_of_mem _ hi))]; simp
theorem sumIf_app (f : Nat → Nat) (p : Nat → Bool) : ∀ (l m : List Nat), sumIf p f (l ++ m) = sumIf p f l + sumIf p f m
  | [], m => by simp [sumIf]
  | i :: l, m => by rw [List.cons_append, sumIf, sumIf, sumIf_app f p l m]; omega
def ahead (under : List Int) (m : Nat) (j : Nat) : Bool := match under[j]? with
  | some u => decide (u < (m : Int))
  | none => false
theorem forest (h : Wd nodes under lv) : ∀ (d m : Nat), m + d = nodes.length → sumIf (ahead under m) (fun i => tcnt (gt nodes under i)) (List.range' m d) = d
  | 0, m, _ => rfl
  | d + 1, m, hm => by
    have ih := forest h d (m + 1) (by omega)
    have hml : m < nodes.length := by omega
    have hmu : m < under.length := by rw [h.lu]; exact hml
    rw [List.range'_succ, sumIf]
    have hself : ahead under m m = true := by
      unfold ahead
      cases m with
      | zero => rw [h.root.1]; rfl
      | succ m =>
        obtain ⟨p, _, _, hu, hp, _⟩ := h.par (m + 1) (by omega) hml
        rw [hu]; simp; omega
    rw [if_pos hself, gt_eq h (List.getElem?_eq_getElem hml), tcnt]
    unfold kidsF
    rw [sumIf_kids]
    have hr : List.range nodes.length = List.range' 0 (m + 1) ++ List.range' (m + 1) d := by
      have hq := List.range'_append_1 (s := 0) (m := m + 1) (n := d)
      rw [Nat.zero_add] at hq
      rw [List.range_eq_range', hq]
      congr 1; omega
    rw [hr, sumIf_app, sumIf_none _ _ (List.range' 0 (m + 1)) (fun i hi => ?_)]
    · have hsp := sumIf_split (fun i => tcnt (gt nodes under i)) (ahead under (m + 1)) (ahead under m) (fun j => under[j]? == some (m : Int)) (List.range' (m + 1) d) (fun i hi => ?_)
      · rw [hsp] at ih
        omega
      · have hil : i < under.length := by
          have := List.mem_range'_1.1 hi
          rw [h.lu]; omega
        unfold ahead
        rw [List.getElem?_eq_getElem hil]
        generalize under[i] = u
        simp only
        rcases Int.lt_trichotomy u (m : Int) with q | q | q
        · have q1 : u < ((m + 1 : Nat) : Int) := by omega
          have q2 : u ≠ (m : Int) := by omega
          simp only [q, q1, decide_true, Bool.true_or, Bool.true_and, true_and]
          simpa using q2
        · subst q
          have q1 : (m : Int) < ((m + 1 : Nat) : Int) := by omega
          have q2 : ¬ (m : Int) < (m : Int) := by omega
          simp only [q1, q2, decide_true, decide_false, Bool.false_or, Bool.false_and, and_true, beq_self_eq_true]
        · have q1 : ¬ u < ((m + 1 : Nat) : Int) := by omega
          have q2 : ¬ u < (m : Int) := by omega
          have q3 : u ≠ (m : Int) := by omega
          simp only [q1, q2, decide_false, Bool.false_or, Bool.false_and, and_true]
          symm; simpa using q3
    · cases hc : under[i]? == some (m : Int) with
      | false => rfl
      | true =>
        have him := List.mem_range'_1.1 hi
        obtain ⟨_, q, _⟩ := kids_gt h (l := [i]) (i := i) (j := m) (by simp [kidsF, hc])
        omega
theorem gt_cnt (h : Wd nodes under lv) : tcnt (gt nodes under 0) = nodes.length := by
  obtain ⟨d, hd⟩ : ∃ d, nodes.length = d + 1 := ⟨nodes.length - 1, by have := h.pos; omega⟩
  have := forest h nodes.length 0 (by omega)
  rw [hd, List.range'_succ, sumIf] at this
  have h0 : ahead under 0 0 = true := by unfold ahead; rw [h.root.1]; rfl
  rw [if_pos h0, sumIf_none _ _ _ (fun i hi => ?_)] at this
  · rw [hd]; omega
  · have hi' := List.mem_range'_1.1 hi
    obtain ⟨p, _, _, hu, _⟩ := h.par i (by omega) (by omega)
    unfold ahead
    rw [hu]; simp
end
end Pr
end Go.Ev


namespace Go.Ev
namespace Pr
set_option linter.unusedVariables false
set_option linter.unusedSimpArgs false

/-! ### A tree of numbers -/
def words : List Str := [[97], [98], [105, 116, 101, 109], [120, 32, 121], [37], [97, 47, 98], [46, 46], [122], [49], [108, 105, 115, 116], [255], [63, 61, 38]]
theorem words_len : ∀ w ∈ words, w.length ≤ 64 := by decide
theorem tags_ok : ∀ s ∈ ([[97], [98], [108, 105], [111, 117, 116, 108, 101, 116]] : List Str), tagOk s = true := by decide +kernel
theorem div_ok : tagOk [100, 105, 118] = true := by decide +kernel

section
variable {nodes : List Tree0} {under : List Int} {lv : List Nat}
theorem getElem?_push {α : Type} (l : List α) (x : α) (j : Nat) : (l ++ [x])[j]? = if j < l.length then l[j]? else if j = l.length then some x else none := by
  by_cases h : j < l.length
  · rw [if_pos h, List.getElem?_append_left h]
  · rw [if_neg h, List.getElem?_append_right (by omega)]
    by_cases h2 : j = l.length
    · rw [if_pos h2, h2]; simp
    · rw [if_neg h2]
      have : ∃ k, j - l.length = k + 1 := ⟨j - l.length - 1, by omega⟩
      obtain ⟨k, hk⟩ := this
      rw [hk]; rfl
theorem push_old {α : Type} {l : List α} {x y : α} {j : Nat} (h : l[j]? = some y) : (l ++ [x])[j]? = some y := by
  rw [List.getElem?_append_left (List.getElem?_eq_some_iff.1 h).1]; exact h
theorem wd_push (h : Wd nodes under lv) (hl : nodes.length ≤ 12) {t : Tree0} (ht : n0ok t) {p v : Nat} {tp : Tree0} (hp : nodes[p]? = some tp) (htp : tp.Tag ≠ []) (hv : lv[p]? = some v) (h6 : v ≤ 6) : Wd (nodes ++ [t]) (under ++ [(p : Int)]) (lv ++ [v + 1]) where
  lu := by simp [h.lu]
  ll := by simp [h.ll]
  pos := by simp
  le := by simp; omega
  ok := fun j u hu => by
    rw [getElem?_push] at hu
    split at hu
    · exact h.ok j u hu
    · split at hu
      · cases hu; exact ht
      · cases hu
  root := ⟨push_old h.root.1, push_old h.root.2⟩
  par := fun j h0 hj => by
    simp only [List.length_append, List.length_singleton] at hj
    by_cases hjl : j < nodes.length
    · obtain ⟨q, tq, vq, h1, h2, h3, h4, h5, h6⟩ := h.par j h0 hjl
      exact ⟨q, tq, vq, push_old h1, h2, push_old h3, h4, push_old h5, push_old h6⟩
    · have hj : j = nodes.length := by omega
      subst hj
      have hpl := (List.getElem?_eq_some_iff.1 hp).1
      refine ⟨p, tp, v, ?_, hpl, push_old hp, htp, push_old hv, ?_⟩
      · rw [getElem?_push, h.lu, if_neg (by omega), if_pos rfl]
      · rw [getElem?_push, h.ll, if_neg (by omega), if_pos rfl]
  lim := fun j w hw => by
    rw [getElem?_push] at hw
    split at hw
    · exact h.lim j w hw
    · split at hw
      · cases hw; omega
      · cases hw

/-- The root is an element. -/
def rootEl (nodes : List Tree0) : Prop := ∃ t, nodes[0]? = some t ∧ t.Tag = [100, 105, 118] ∧ t.Key = []

theorem j48_ok (h : Wd nodes under lv) (hr : rootEl nodes) (n : Nat) (hn : 20 < n) (hl : nodes.length ≤ 12) {i : Int} (again : List Tree0 → List Int → Int → Option Tree) {p : Nat} {tp : Tree0} (hp : nodes[p]? = some tp) (htp : tp.Tag ≠ []) (a b c : Str) (ats : List Attr) (ht : n0ok ⟨a, b, c, ats⟩) :
    ∃ (u : Int) (w : Nat), Wd (nodes ++ [⟨a, b, c, ats⟩]) (under ++ [u]) (lv ++ [w]) ∧ porticokeep_Wood_Tree_j48 n nodes under i again (p : Int) a b c ats = again (nodes ++ [⟨a, b, c, ats⟩]) (under ++ [u]) (IntKind.wrap .i64 (i + 1)) := by
  have hpl : p < lv.length := by rw [h.ll]; exact (List.getElem?_eq_some_iff.1 hp).1
  have hv := List.getElem?_eq_getElem hpl
  have key : ∀ (q : Nat) (u : Int), u = (q : Int) → porticokeep_Wood_Tree_j52 nodes under i again a b c ats u = again (nodes ++ [⟨a, b, c, ats⟩]) (under ++ [u]) (IntKind.wrap .i64 (i + 1)) := fun q u hu => by
    unfold porticokeep_Wood_Tree_j52
    rw [app_ok (by rw [bnd]; simp; omega), Option.bind_some, app_ok (by rw [bnd, h.lu]; simp; omega), Option.bind_some]
  unfold porticokeep_Wood_Tree_j48
  rw [deep0_ok h n hn hv, Option.bind_some]
  by_cases h6 : 6 < lv[p]
  · obtain ⟨t0, h1, h2, _⟩ := hr
    refine ⟨((0 : Nat) : Int), 2, wd_push h hl ht h1 (by rw [h2]; simp) h.root.2 (by omega), ?_⟩
    rw [if_pos (by rw [decide_eq_true_eq]; omega)]
    exact key 0 _ rfl
  · refine ⟨(p : Int), lv[p] + 1, wd_push h hl ht hp htp hv (by omega), ?_⟩
    rw [if_neg (by rw [decide_eq_true_eq]; omega)]
    exact key p _ rfl

theorem wlen : (words.length : Int) = 12 := rfl
theorem n0_tag {tag key : Str} (h1 : tag ∈ ([[97], [98], [108, 105], [111, 117, 116, 108, 101, 116]] : List Str)) (h2 : key.length ≤ 64) {ats : List Attr} (h3 : attrsOk ats) : n0ok ⟨tag, key, [], ats⟩ := .inr ⟨tags_ok tag h1, rfl, h2, h3⟩
theorem j72_ok (h : Wd nodes under lv) (hr : rootEl nodes) (n : Nat) (hn : 20 < n) (hl : nodes.length ≤ 12) (k : K_Wood) {i : Nat} (hi : i ≤ 20) (again : List Tree0 → List Int → Int → Option Tree) {p : Nat} {tp : Tree0} (hp : nodes[p]? = some tp) (htp : tp.Tag ≠ []) {tag key : Str} (h1 : tag ∈ ([[97], [98], [108, 105], [111, 117, 116, 108, 101, 116]] : List Str)) (h2 : key.length ≤ 64) :
    ∃ (t : Tree0) (u : Int) (w : Nat), Wd (nodes ++ [t]) (under ++ [u]) (lv ++ [w]) ∧ porticokeep_Wood_Tree_j72 n k words nodes under (i : Int) again (p : Int) tag key = again (nodes ++ [t]) (under ++ [u]) ((i + 1 : Nat) : Int) := by
  obtain ⟨r, hr1⟩ := pick_ok n k.Texts (i : Int) (by omega)
  unfold porticokeep_Wood_Tree_j72
  rw [hr1, Option.bind_some]
  by_cases hb : (andI .i64 r 1 == 1) = true
  · rw [if_pos hb, w64 (by omega) (by omega)]
    obtain ⟨r2, hr2⟩ := pick_ok n k.Texts ((i : Int) + 1) (by omega)
    rw [hr2, Option.bind_some, wlen, w64 (by omega) (by omega)]
    obtain ⟨q, q1, q2, q3⟩ := within_ok n r2 0 (12 - 1) (by omega) (by omega) (by omega)
    obtain ⟨w, w1, w2, _⟩ := idx_in words q2 (by rw [wlen]; omega)
    rw [q1, Option.bind_some, w1, Option.bind_some]
    obtain ⟨u, v, k1, k2⟩ := j48_ok h hr n hn hl (i := (i : Int)) again hp htp tag key [] [Attr.mk [120] w] (n0_tag h1 h2 (.inr ⟨_, rfl, by simp, by simp, words_len w w2⟩))
    rw [w64 (by omega) (by omega)] at k2
    exact ⟨_, u, v, k1, k2⟩
  · rw [if_neg hb]
    obtain ⟨u, v, k1, k2⟩ := j48_ok h hr n hn hl (i := (i : Int)) again hp htp tag key [] [] (n0_tag h1 h2 (.inl rfl))
    rw [w64 (by omega) (by omega)] at k2
    exact ⟨_, u, v, k1, k2⟩
theorem j33_ok (h : Wd nodes under lv) (hr : rootEl nodes) (n : Nat) (hn : 20 < n) (hl : nodes.length ≤ 12) (k : K_Wood) {i : Nat} (hi : i ≤ 20) (again : List Tree0 → List Int → Int → Option Tree) {p : Nat} {tp : Tree0} (hp : nodes[p]? = some tp) (htp : tp.Tag ≠ []) :
    ∃ (t : Tree0) (u : Int) (w : Nat), Wd (nodes ++ [t]) (under ++ [u]) (lv ++ [w]) ∧ porticokeep_Wood_Tree_j33 n k words nodes under (i : Int) again (p : Int) = again (nodes ++ [t]) (under ++ [u]) ((i + 1 : Nat) : Int) := by
  obtain ⟨r, hr1⟩ := pick_ok n k.Texts (i : Int) (by omega)
  obtain ⟨q, q1, q2, q3⟩ := within_ok n r 0 (12 - 1) (by omega) (by omega) (by omega)
  obtain ⟨w, w1, w2, _⟩ := idx_in words q2 (by rw [wlen]; omega)
  obtain ⟨r2, hr2⟩ := pick_ok n k.Kinds (i : Int) (by omega)
  obtain ⟨c, c1, c2, c3⟩ := within_ok n r2 0 5 (by omega) (by omega) (by omega)
  unfold porticokeep_Wood_Tree_j33
  rw [hr1, Option.bind_some, wlen, w64 (by omega) (by omega), q1, Option.bind_some, w1, Option.bind_some, hr2, Option.bind_some, c1, Option.bind_some]
  by_cases hc : c < 4
  · rw [if_pos (by rw [decide_eq_true_eq]; exact hc)]
    obtain ⟨tag, t1, t2, _⟩ := idx_in ([[97], [98], [108, 105], [111, 117, 116, 108, 101, 116]] : List Str) c2 (by simp; omega)
    obtain ⟨r3, hr3⟩ := pick_ok n k.Keys (i : Int) (by omega)
    obtain ⟨d, d1, d2, d3⟩ := within_ok n r3 0 6 (by omega) (by omega) (by omega)
    rw [t1, Option.bind_some, hr3, Option.bind_some, d1, Option.bind_some]
    by_cases hd : d < 4
    · rw [if_pos (by rw [decide_eq_true_eq]; exact hd)]
      exact j72_ok h hr n hn hl k hi again hp htp t2 (by simp)
    · rw [if_neg (by rw [decide_eq_true_eq]; exact hd)]
      exact j72_ok h hr n hn hl k hi again hp htp t2 (by simp)
  · rw [if_neg (by rw [decide_eq_true_eq]; exact hc)]
    obtain ⟨u, v, k1, k2⟩ := j48_ok h hr n hn hl (i := (i : Int)) again hp htp [] [] w [] (.inl ⟨rfl, rfl, rfl, words_len w w2⟩)
    rw [w64 (by omega) (by omega)] at k2
    exact ⟨_, u, v, k1, k2⟩
theorem wood_loop (n : Nat) (hn : 100 < n) (k : K_Wood) : ∀ (m i f : Nat) (nodes : List Tree0) (under : List Int) (lv : List Nat), Wd nodes under lv → rootEl nodes → nodes.length = i + 1 → i + m = 12 → m < f →
    ∃ nodes' under' lv', Wd nodes' under' lv' ∧ rootEl nodes' ∧ porticokeep_Wood_Tree_l25 n k words f nodes under (i : Int) = porticokeep_grow n nodes' under' 0
  | m, i, f + 1, nodes, under, lv, h, hr, hl, hm, hf => by
    rw [porticokeep_Wood_Tree_l25]
    by_cases hc : i < k.Under.length ∧ i < 12
    · obtain ⟨m, rfl⟩ : ∃ m', m = m' + 1 := ⟨m - 1, by omega⟩
      rw [if_pos (by simp; omega), idx_nat, List.getElem?_eq_getElem hc.1, Option.bind_some]
      rw [w64 (n := (nodes.length : Int) - 1) (by omega) (by omega)]
      obtain ⟨q, q1, q2, q3⟩ := within_ok n k.Under[i] 0 ((nodes.length : Int) - 1) (by omega) (by omega) (by omega)
      obtain ⟨t, t1, t2, t3⟩ := idx_in nodes q2 (by omega)
      rw [q1, Option.bind_some, t1, Option.bind_some]
      have go : ∀ (p : Nat) (tp : Tree0), nodes[p]? = some tp → tp.Tag ≠ [] → ∃ nodes' under' lv', Wd nodes' under' lv' ∧ rootEl nodes' ∧ porticokeep_Wood_Tree_j33 n k words nodes under (i : Int) (porticokeep_Wood_Tree_l25 n k words f) (p : Int) = porticokeep_grow n nodes' under' 0 := fun p tp hp htp => by
        obtain ⟨t', u, w, k1, k2⟩ := j33_ok (i := i) h hr n (by omega) (by omega) k (by omega) (porticokeep_Wood_Tree_l25 n k words f) hp htp
        have hr' : rootEl (nodes ++ [t']) := by
          obtain ⟨t0, h1, h2⟩ := hr
          exact ⟨t0, push_old h1, h2⟩
        obtain ⟨n', u', l', g1, g2, g3⟩ := wood_loop n hn k m (i + 1) f _ _ _ k1 hr' (by simp; omega) (by omega) (by omega)
        exact ⟨n', u', l', g1, g2, by rw [k2, g3]⟩
      by_cases hb : (t.Tag == []) = true
      · rw [if_pos hb]
        obtain ⟨t0, h1, h2, h3⟩ := hr
        exact go 0 t0 h1 (by rw [h2]; simp)
      · rw [if_neg hb]
        have hqn : q = (q.toNat : Int) := by omega
        rw [hqn]
        exact go q.toNat t t3 (by simpa using hb)
    · rw [if_neg (by simp; omega)]
      exact ⟨nodes, under, lv, h, hr, by cases porticokeep_grow n nodes under 0 <;> rfl⟩
end

/-- What a tree of numbers is. -/
theorem wood_ok (k : K_Wood) (n : Nat) (hn : 100 < n) : ∃ t, porticokeep_Wood_Tree n k = some t ∧ tgood t ∧ tcnt t ≤ 13 ∧ tdep t ≤ 7 ∧ t.Tag = [100, 105, 118] ∧ t.Key = [] := by
  have h0 : Wd [⟨[100, 105, 118], [], [], []⟩] [-1] [1] := by
    refine ⟨rfl, rfl, by simp, by simp, fun j t ht => ?_, ⟨rfl, rfl⟩, fun j h1 h2 => ?_, fun j v hv => ?_⟩
    · cases j with
      | zero => simp at ht; subst ht; exact .inr ⟨div_ok, rfl, by simp, .inl rfl⟩
      | succ j => simp at ht
    · simp at h2; omega
    · cases j with
      | zero => simp at hv; subst hv; omega
      | succ j => simp at hv
  obtain ⟨nodes, under, lv, h, hr, he⟩ := wood_loop n hn k 12 0 n _ _ _ h0 ⟨_, rfl, rfl, rfl⟩ rfl rfl (by omega)
  have hle := h.le
  have hg := gt_good h nodes.length 0 1 (by omega) h.root.2
  have hc := gt_cnt h
  obtain ⟨t0, r1, r2, r3⟩ := hr
  refine ⟨gt nodes under 0, ?_, hg.1, by rw [hc]; exact hle, by omega, by rw [gt_eq h r1]; exact r2, by rw [gt_eq h r1]; exact r3⟩
  unfold porticokeep_Wood_Tree porticokeep_Words
  rw [Option.bind_some]
  have := grow_ok h n 0 h.pos (by omega)
  rw [show ((0 : Nat) : Int) = 0 from rfl] at this he
  rw [← this, ← he]
  rfl
end Pr
end Go.Ev


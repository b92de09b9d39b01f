import Derived.Test.YtfohjknpgnkobaaDoorPartD
import Derived.Test.YtfohjknpgnkobaaDoorProg
import Derived.WalkKit
import Derived.ProofKit
namespace Go.Ev
namespace Pr
set_option linter.unusedVariables false
set_option linter.unusedSimpArgs false
open Go.Proofs
noncomputable def cfg : Cfg := { P := Tryd.prog, good := fun _ => true, rowT := fun _ => false, prim := fun _ _ _ => none, objT := fun _ => none, hasPrim := fun _ => false }
noncomputable def cfgR1 : Cfg := { cfg with rowT := fun t => Nat.beq t 27 }
noncomputable def cfgR2 : Cfg := { cfg with rowT := fun t => Nat.beq t 24 }
theorem nm5 : (Tryd.f5.name == "runtime.NumGoroutine") = false := by kernel_rfl
theorem nm16 : (Tryd.f16.name == "runtime.NumGoroutine") = false := by kernel_rfl
theorem es27 : (elemSl cfg.P 27).isSome = true := by kernel_rfl
theorem el27 : elemSl cfg.P 27 = some 3 := by kernel_rfl
theorem as3 : (aggO cfg.P 3).isSome = true := by kernel_rfl
theorem sz3 : szOf cfg.P 3 = 1 := by kernel_rfl
theorem ag3 : aggO cfg.P 3 = some false := by kernel_rfl
theorem nm46 : (Tryd.f46.name == "runtime.NumGoroutine") = false := by kernel_rfl
theorem nm32 : (Tryd.f32.name == "runtime.NumGoroutine") = false := by kernel_rfl
theorem nm33 : (Tryd.f33.name == "runtime.NumGoroutine") = false := by kernel_rfl
theorem nm21 : (Tryd.f21.name == "runtime.NumGoroutine") = false := by kernel_rfl
theorem fo26_5 : fieldOf cfg.P 26 5 = some (5, 24) := by kernel_rfl
theorem nz24 : Nat.beq (szOf cfg.P 24) 0 = false := by kernel_rfl
theorem ag24 : aggO cfg.P 24 = some false := by kernel_rfl
theorem es24 : (elemSl cfg.P 24).isSome = true := by kernel_rfl
theorem el24 : elemSl cfg.P 24 = some 26 := by kernel_rfl
theorem as26 : (aggO cfg.P 26).isSome = true := by kernel_rfl
theorem sz26 : szOf cfg.P 26 = 6 := by kernel_rfl
theorem ag26 : aggO cfg.P 26 = some true := by kernel_rfl
theorem ob26 : cfg.objT 26 = none := by kernel_rfl
theorem zo26 : zeroOf cfg.P 26 = some (.agg [.int .i64 0, .int .i64 0, .str [], .str [], .nils, .nils]) := by kernel_rfl
theorem nm34 : (Tryd.f34.name == "runtime.NumGoroutine") = false := by kernel_rfl
theorem fo26_1 : fieldOf cfg.P 26 1 = some (1, 3) := by kernel_rfl
theorem nz3 : Nat.beq (szOf cfg.P 3) 0 = false := by kernel_rfl
theorem fo26_0 : fieldOf cfg.P 26 0 = some (0, 3) := by kernel_rfl
theorem fo26_2 : fieldOf cfg.P 26 2 = some (2, 9) := by kernel_rfl
theorem nz9 : Nat.beq (szOf cfg.P 9) 0 = false := by kernel_rfl
theorem ag9 : aggO cfg.P 9 = some false := by kernel_rfl
theorem nm35 : (Tryd.f35.name == "runtime.NumGoroutine") = false := by kernel_rfl
theorem nm22 : (Tryd.f22.name == "runtime.NumGoroutine") = false := by kernel_rfl
theorem fo32_1 : fieldOf cfg.P 32 1 = some (6, 27) := by kernel_rfl
theorem nz27 : Nat.beq (szOf cfg.P 27) 0 = false := by kernel_rfl
theorem ag27 : aggO cfg.P 27 = some false := by kernel_rfl
theorem fo32_2 : fieldOf cfg.P 32 2 = some (7, 30) := by kernel_rfl
theorem nz30 : Nat.beq (szOf cfg.P 30) 0 = false := by kernel_rfl
theorem ag30 : aggO cfg.P 30 = some false := by kernel_rfl
theorem es30 : (elemSl cfg.P 30).isSome = true := by kernel_rfl
theorem fo32_0 : fieldOf cfg.P 32 0 = some (0, 26) := by kernel_rfl
theorem nz26 : Nat.beq (szOf cfg.P 26) 0 = false := by kernel_rfl
theorem el30 : elemSl cfg.P 30 = some 29 := by kernel_rfl
theorem as29 : (aggO cfg.P 29).isSome = true := by kernel_rfl
theorem sz29 : szOf cfg.P 29 = 3 := by kernel_rfl
theorem ag29 : aggO cfg.P 29 = some true := by kernel_rfl
theorem ob29 : cfg.objT 29 = none := by kernel_rfl
theorem zo29 : zeroOf cfg.P 29 = some (.agg [.str [], .int .i64 0, .int .i64 0]) := by kernel_rfl
theorem fo29_0 : fieldOf cfg.P 29 0 = some (0, 9) := by kernel_rfl
theorem st9 : strT cfg.P 9 = true := by kernel_rfl
theorem fo29_1 : fieldOf cfg.P 29 1 = some (1, 3) := by kernel_rfl
theorem fo29_2 : fieldOf cfg.P 29 2 = some (2, 3) := by kernel_rfl
theorem nm12 : (Tryd.f12.name == "runtime.NumGoroutine") = false := by kernel_rfl
theorem nm17 : (Tryd.f17.name == "runtime.NumGoroutine") = false := by kernel_rfl
theorem us27s : cfg.P.underlying 27 = some (.slice 3) := by kernel_rfl
theorem rw27 : cfg.rowT 27 = false := by kernel_rfl
theorem os27 : okSrc cfg 27 = true := by kernel_rfl
theorem nb3 : bytesOf cfg.P 3 = 8 := by kernel_rfl
theorem zk3 : zeroOk cfg 3 = true := by kernel_rfl
theorem bs27xR1 : asRow cfgR1 27 0 = false := by kernel_rfl
theorem rw27R1 : cfgR1.rowT 27 = true := by kernel_rfl
theorem os27R1 : okSrc cfgR1 27 = true := by kernel_rfl
theorem zk3R1 : zeroOk cfgR1 3 = true := by kernel_rfl
theorem nm44 : (Tryd.f44.name == "runtime.NumGoroutine") = false := by kernel_rfl
theorem us23s : cfg.P.underlying 23 = some (.slice 68) := by kernel_rfl
theorem sz68 : szOf cfg.P 68 = 2 := by kernel_rfl
theorem rw23 : cfg.rowT 23 = false := by kernel_rfl
theorem el23 : elemSl cfg.P 23 = some 68 := by kernel_rfl
theorem ag68 : aggO cfg.P 68 = some true := by kernel_rfl
theorem os23 : okSrc cfg 23 = true := by kernel_rfl
theorem nb68 : bytesOf cfg.P 68 = 32 := by kernel_rfl
theorem zk68 : zeroOk cfg 68 = true := by kernel_rfl
theorem nm45 : (Tryd.f45.name == "runtime.NumGoroutine") = false := by kernel_rfl
theorem us24s : cfg.P.underlying 24 = some (.slice 26) := by kernel_rfl
theorem rw24 : cfg.rowT 24 = false := by kernel_rfl
theorem os24 : okSrc cfg 24 = true := by kernel_rfl
theorem nb26 : bytesOf cfg.P 26 = 96 := by kernel_rfl
theorem zk26 : zeroOk cfg 26 = true := by kernel_rfl
theorem bs24xR2 : asRow cfgR2 24 0 = false := by kernel_rfl
theorem rw24R2 : cfgR2.rowT 24 = true := by kernel_rfl
theorem os24R2 : okSrc cfgR2 24 = true := by kernel_rfl
theorem zk26R2 : zeroOk cfgR2 26 = true := by kernel_rfl
theorem ob26R2 : cfgR2.objT 26 = none := by kernel_rfl
theorem fo26_4 : fieldOf cfg.P 26 4 = some (4, 23) := by kernel_rfl
theorem nz23 : Nat.beq (szOf cfg.P 23) 0 = false := by kernel_rfl
theorem ag23 : aggO cfg.P 23 = some false := by kernel_rfl
theorem sz23 : szOf cfg.P 23 = 1 := by kernel_rfl
theorem as23 : (aggO cfg.P 23).isSome = true := by kernel_rfl
theorem sz24 : szOf cfg.P 24 = 1 := by kernel_rfl
theorem as24 : (aggO cfg.P 24).isSome = true := by kernel_rfl
theorem hmix : cfg.P.follows .mixedOrders = true := by kernel_rfl
theorem nm26 : (Tryd.f26.name == "runtime.NumGoroutine") = false := by kernel_rfl
theorem nm27 : (Tryd.f27.name == "runtime.NumGoroutine") = false := by kernel_rfl
theorem us30s : cfg.P.underlying 30 = some (.slice 29) := by kernel_rfl
theorem rw30 : cfg.rowT 30 = false := by kernel_rfl
theorem os30 : okSrc cfg 30 = true := by kernel_rfl
theorem nb29 : bytesOf cfg.P 29 = 32 := by kernel_rfl
theorem zk29 : zeroOk cfg 29 = true := by kernel_rfl
theorem ag32 : aggO cfg.P 32 = some true := by kernel_rfl
theorem sz32 : szOf cfg.P 32 = 8 := by kernel_rfl
theorem zo53 : zeroOf cfg.P 53 = some (.agg [.int .i64 0, .int .i64 0, .str [], .str [], .nils, .nils, .nils, .nils]) := by kernel_rfl
theorem nm15 : (Tryd.f15.name == "runtime.NumGoroutine") = false := by kernel_rfl
theorem nm6 : (Tryd.f6.name == "runtime.NumGoroutine") = false := by kernel_rfl
theorem fo53_2 : fieldOf cfg.P 53 2 = some (7, 27) := by kernel_rfl
theorem nm9 : (Tryd.f9.name == "runtime.NumGoroutine") = false := by kernel_rfl
theorem nm43 : (Tryd.f43.name == "runtime.NumGoroutine") = false := by kernel_rfl
theorem nm24 : (Tryd.f24.name == "runtime.NumGoroutine") = false := by kernel_rfl
theorem nm25 : (Tryd.f25.name == "runtime.NumGoroutine") = false := by kernel_rfl
theorem fo53_1 : fieldOf cfg.P 53 1 = some (6, 30) := by kernel_rfl
theorem nm13 : (Tryd.f13.name == "runtime.NumGoroutine") = false := by kernel_rfl
theorem ob29R1 : cfgR1.objT 29 = none := by kernel_rfl
theorem sz27 : szOf cfg.P 27 = 1 := by kernel_rfl
theorem as27 : (aggO cfg.P 27).isSome = true := by kernel_rfl
theorem nm7 : (Tryd.f7.name == "runtime.NumGoroutine") = false := by kernel_rfl
theorem nm8 : (Tryd.f8.name == "runtime.NumGoroutine") = false := by kernel_rfl
theorem zo3 : zeroOf cfg.P 3 = some (.int .i64 0) := by kernel_rfl
theorem zo32 : zeroOf cfg.P 32 = some (.agg [.int .i64 0, .int .i64 0, .str [], .str [], .nils, .nils, .nils, .nils]) := by kernel_rfl
theorem ob32 : cfg.objT 32 = none := by kernel_rfl
theorem as32 : (aggO cfg.P 32).isSome = true := by kernel_rfl
theorem up33 : cfg.P.underlying 33 = some (.pointer 53) := by kernel_rfl
theorem ub4 : cfg.P.underlying 4 = some .bool := by kernel_rfl
theorem nm28 : (Tryd.f28.name == "runtime.NumGoroutine") = false := by kernel_rfl
theorem nm18 : (Tryd.f18.name == "runtime.NumGoroutine") = false := by kernel_rfl
theorem nm20 : (Tryd.f20.name == "runtime.NumGoroutine") = false := by kernel_rfl
theorem rw45 : cfg.rowT 45 = false := by kernel_rfl
theorem el45 : elemSl cfg.P 45 = some 9 := by kernel_rfl
theorem zo9 : zeroOf cfg.P 9 = some (.str []) := by kernel_rfl
theorem sz9 : szOf cfg.P 9 = 1 := by kernel_rfl
theorem nm29 : (Tryd.f29.name == "runtime.NumGoroutine") = false := by kernel_rfl
theorem nm30 : (Tryd.f30.name == "runtime.NumGoroutine") = false := by kernel_rfl
theorem nm31 : (Tryd.f31.name == "runtime.NumGoroutine") = false := by kernel_rfl
theorem fo42_0 : fieldOf cfg.P 42 0 = some (0, 27) := by kernel_rfl
theorem fo42_1 : fieldOf cfg.P 42 1 = some (1, 27) := by kernel_rfl
theorem fo42_2 : fieldOf cfg.P 42 2 = some (2, 27) := by kernel_rfl
theorem fo42_3 : fieldOf cfg.P 42 3 = some (3, 27) := by kernel_rfl
theorem es45 : (elemSl cfg.P 45).isSome = true := by kernel_rfl
theorem as9 : (aggO cfg.P 9).isSome = true := by kernel_rfl
theorem zo68 : zeroOf cfg.P 68 = some (.agg [.str [], .str []]) := by kernel_rfl
theorem fo26_3 : fieldOf cfg.P 26 3 = some (3, 9) := by kernel_rfl
theorem nm19 : (Tryd.f19.name == "runtime.NumGoroutine") = false := by kernel_rfl
theorem fo44_0 : fieldOf cfg.P 44 0 = some (0, 42) := by kernel_rfl
theorem nz42 : Nat.beq (szOf cfg.P 42) 0 = false := by kernel_rfl
theorem ag42 : aggO cfg.P 42 = some true := by kernel_rfl
theorem sz42 : szOf cfg.P 42 = 4 := by kernel_rfl
theorem fo44_3 : fieldOf cfg.P 44 3 = some (6, 4) := by kernel_rfl
theorem nz4 : Nat.beq (szOf cfg.P 4) 0 = false := by kernel_rfl
theorem ag4 : aggO cfg.P 4 = some false := by kernel_rfl
theorem fo44_1 : fieldOf cfg.P 44 1 = some (4, 27) := by kernel_rfl
theorem fo44_2 : fieldOf cfg.P 44 2 = some (5, 27) := by kernel_rfl
theorem sz30 : szOf cfg.P 30 = 1 := by kernel_rfl
theorem as30 : (aggO cfg.P 30).isSome = true := by kernel_rfl
theorem nm11 : (Tryd.f11.name == "runtime.NumGoroutine") = false := by kernel_rfl
theorem fo53_0 : fieldOf cfg.P 53 0 = some (0, 26) := by kernel_rfl
theorem nm14 : (Tryd.f14.name == "runtime.NumGoroutine") = false := by kernel_rfl
theorem ag44 : aggO cfg.P 44 = some true := by kernel_rfl
theorem sz44 : szOf cfg.P 44 = 7 := by kernel_rfl
theorem ob32R1 : cfgR1.objT 32 = none := by kernel_rfl
theorem nm4 : (Tryd.f4.name == "runtime.NumGoroutine") = false := by kernel_rfl
theorem place_struct53 : oper.P_place cfg 53 = some (placeL [(0, 6), (6, 1), (7, 1)]) := placeL_of (by kernel_rfl)
theorem place_struct26 : oper.P_place cfg 26 = some (placeL [(0, 1), (1, 1), (2, 1), (3, 1), (4, 1), (5, 1)]) := placeL_of (by kernel_rfl)
theorem place_struct29 : oper.P_place cfg 29 = some (placeL [(0, 1), (1, 1), (2, 1)]) := placeL_of (by kernel_rfl)
theorem place_struct32 : oper.P_place cfg 32 = some (placeL [(0, 6), (6, 1), (7, 1)]) := placeL_of (by kernel_rfl)
theorem place_struct68 : oper.P_place cfg 68 = some (placeL [(0, 1), (1, 1)]) := placeL_of (by kernel_rfl)
/-- What is asked of the world and of the library. -/
structure PrOk (R : ObjR) : Prop where
  obj : ObjOkC R cfg
  strings_Trim_ok : ∀ (n : Nat) (x0 : Str) (x1 : Str) (r : Str), strings_Trim n x0 x1 = some r → SpecC R cfg.P 23 [(.str x0), (.str x1)] (.d (.str r))
  porticolaw17_CompRuns_ok : ∀ (n : Nat) (r : Bool), porticolaw17_CompRuns n = some r → SpecC R cfg.P 10 [] (.d (.bool r))
section
variable {R : ObjR} (E : PrOk R)
include E
theorem objR1 : ObjOkC R cfgR1 := ⟨E.obj.toObjOk, E.obj.new⟩
theorem objR2 : ObjOkC R cfgR2 := ⟨E.obj.toObjOk, E.obj.new⟩
set_option maxRecDepth 20000 in
set_option maxHeartbeats 4000000 in
theorem porticobook_Within_ok (n : Nat) (a1 : Int) (a2 : Int) (a3 : Int) (r : Int) (h : porticobook_Within n a1 a2 a3 = some r) : SpecC R cfg.P 5 [(.int .i64 a1), (.int .i64 a2), (.int .i64 a3)] (.d (.int .i64 r)) := by
  unfold porticobook_Within at h
  refine SpecC.of_wp E.obj.toObjOk (C := cfg) Tryd.func5 rfl nm5 rfl ?_
  have H0 : Has pureSt pureSt [] := Has.pure
  refine WpC.seq ?_
  refine WpC.region E.obj rfl ?_
  refine wpO.val rfl (oper_assign rfl) rfl ?_
  refine wpO.nil ?_
  refine WpC.seq ?_
  refine WpC.region E.obj rfl ?_
  refine wpO.val rfl (oper_move rfl) rfl ?_
  refine wpO.val rfl (oper_move rfl) rfl ?_
  refine wpO.val rfl (oper_move rfl) rfl ?_
  refine wpO.val rfl (oper_bin rfl rfl binD_sub) rfl ?_
  refine wpO.val rfl (oper_bin rfl rfl binD_add) rfl ?_
  obtain ⟨z4, hzz4, h⟩ := bind_some h
  refine wpO.val rfl (oper_bin rfl rfl (binD_remI hzz4)) rfl ?_
  refine wpO.val rfl (oper_assign rfl) rfl ?_
  refine wpO.nil ?_
  refine WpC.join (B := pureSt) (α := Int) (fun a => porticobook_Within_j8 a2 a = some r) (fun a => [(0, (.d (.int .i64 a))), (1, (.d (.int .i64 a2)))]) (fun a => []) ?_ ?_
  ·
    intro x7 S5 H6 h
    replace h : porticobook_Within_j8 a2 x7 = some r := h
    replace H6 : Has pureSt S5 [] := H6
    unfold porticobook_Within_j8 at h
    refine WpC.seq ?_
    refine WpC.region E.obj rfl ?_
    refine wpO.val rfl (oper_move rfl) rfl ?_
    refine wpO.val rfl (oper_move rfl) rfl ?_
    refine wpO.val rfl (oper_bin rfl rfl binD_add) rfl ?_
    refine wpO.val rfl (oper_assign rfl) rfl ?_
    refine wpO.nil ?_
    have hr := Option.some.inj h
    subst hr
    exact WpC.ret ⟨_, rfl, rfl, end1 (ArgsC.eq .nil)⟩
  ·
    refine WpC.seq ?_
    refine WpC.region E.obj rfl ?_
    refine wpO.val rfl (oper_move rfl) rfl ?_
    refine wpO.val rfl (oper_bin rfl rfl binD_lss) rfl ?_
    refine wpO.nil ?_
    refine WpC.cond rfl (fun hb9 => ?_) (fun hb9 => ?_)
    ·
      replace h := if_t hb9 h
      refine WpC.region E.obj rfl ?_
      refine wpO.val rfl (oper_move rfl) rfl ?_
      refine wpO.val rfl (oper_move rfl) rfl ?_
      refine wpO.val rfl (oper_bin rfl rfl binD_add) rfl ?_
      refine wpO.val rfl (oper_move rfl) rfl ?_
      refine wpO.val rfl (oper_bin rfl rfl binD_sub) rfl ?_
      refine wpO.val rfl (oper_bin rfl rfl binD_add) rfl ?_
      refine wpO.val rfl (oper_assign rfl) rfl ?_
      refine wpO.nil ?_
      exact ⟨(IntKind.wrap .i64 ((IntKind.wrap .i64 ((IntKind.wrap .i64 (z4 + a3)) - a2)) + 1)), _, _, pureSt, .refl _ _, .refl _, (WeakE.cons rfl (.refl _) (WeakE.cons rfl (.refl _) WeakE.nil)), H0.sel [] (by decide) rfl, h⟩
    ·
      replace h := if_f hb9 h
      refine WpC.skip ?_
      exact ⟨z4, _, _, pureSt, .refl _ _, .refl _, (WeakE.cons rfl (.refl _) (WeakE.cons rfl (.refl _) WeakE.nil)), H0.sel [] (by decide) rfl, h⟩
set_option maxRecDepth 20000 in
set_option maxHeartbeats 4000000 in
theorem comp_may_ok (n : Nat) (a1 : Int) (r : Bool) (h : comp_may n a1 = some r) : SpecC R cfg.P 16 [(.int .i64 a1)] (.d (.bool r)) := by
  unfold comp_may at h
  refine SpecC.of_wp E.obj.toObjOk (C := cfg) Tryd.func16 rfl nm16 rfl ?_
  have H0 : Has pureSt pureSt [] := Has.pure
  refine WpC.seq ?_
  refine WpC.region E.obj rfl ?_
  refine wpO.val rfl (oper_assign rfl) rfl ?_
  refine wpO.nil ?_
  refine WpC.seq ?_
  refine WpC.region E.obj rfl ?_
  refine wpO.val rfl (oper_move rfl) rfl ?_
  refine wpO.val rfl (oper_bin rfl rfl binD_geq) rfl ?_
  refine wpO.val rfl (oper_move rfl) rfl ?_
  refine wpO.groupV 3 8 (.d (.bool ((decide ((-1000) ≤ a1)) && (decide (a1 ≤ 1000))))) ?_ ?_
  ·
    rcases Bool.eq_false_or_eq_true ((decide ((-1000) ≤ a1))) with hB2 | hB2
    ·
      refine wpO.bool hB2 ?_
      refine wpO.val rfl (oper_move rfl) rfl ?_
      refine wpO.val rfl (oper_bin rfl rfl binD_leq) rfl ?_
      refine wpO.val rfl (oper_pick (b := true) rfl rfl) rfl ?_
      exact wpO.nil ⟨_, rfl, (WeakE.put (WeakE.push rfl (WeakE.push rfl (WeakE.put (.refl _) (Less.eq (by rw [hB2]))))) (Less.eq (by rw [hB2]; rw [Bool.true_and])))⟩
    ·
      refine wpO.bool hB2 ?_
      refine wpO.no rfl rfl ?_
      refine wpO.no rfl rfl ?_
      refine wpO.val rfl (oper_pick (b := false) rfl rfl) rfl ?_
      exact wpO.nil ⟨_, rfl, (WeakE.put (WeakE.push rfl (WeakE.push rfl (WeakE.put (.refl _) (Less.eq (by rw [hB2]))))) (Less.eq (by rw [hB2]; rw [Bool.false_and])))⟩
  ·
    refine wpO.val rfl (oper_assign rfl) rfl ?_
    refine wpO.nil ?_
    have hr := Option.some.inj h
    subst hr
    exact WpC.ret ⟨_, rfl, rfl, end1 (ArgsC.eq .nil)⟩
set_option maxRecDepth 20000 in
set_option maxHeartbeats 4000000 in
theorem slices_IndexFunc__int_int__ok (n : Nat) (S0 : St) (a1 : (List Int)) (fg3 : Nat) (fc4 : List AV) (p2 : Int → Option Bool) (hpp2 : ∀ S', Keeps S0 S' → S'.Wf → ∀ (y0 : Int) (r : Bool), p2 y0 = some r → SpecF R cfg.P fg3 ([.d (.int .i64 y0)] ++ fc4) S' (fun o => o = (none, .d (.bool r), S'))) (r : Int) (h : slices_IndexFunc__int_int_ n a1 p2 = some r) : SpecF R cfg.P 46 [.d (.sl ((a1).map (D.int .i64)) false), .fn fg3 fc4] S0 (fun o => o = (none, .d (.int .i64 r), S0)) := by
  unfold slices_IndexFunc__int_int_ at h
  refine SpecS.of_wp (C := cfg) Tryd.func46 rfl nm46 rfl (fun wf0 => ?_)
  have H0 : Has S0 S0 [] := Has.start wf0
  refine WpC.seq ?_
  refine WpC.region E.obj rfl ?_
  refine wpO.val rfl (oper_assign rfl) rfl ?_
  refine wpO.nil ?_
  refine WpC.seq ?_
  refine WpC.seq ?_
  refine WpC.region E.obj rfl ?_
  refine wpO.val rfl (oper_move rfl) rfl ?_
  refine wpO.val rfl (oper_lenL rfl es27) rfl ?_
  refine wpO.val rfl (oper_move rfl) rfl ?_
  refine wpO.nil ?_
  refine WpC.block ?_
  refine WpL.start (B := S0) (α := Int) (fun k a => slices_IndexFunc__int_int__l13 a1 p2 k a = some r) (fun a => [(0, (.d (.sl ((a1).map (D.int .i64)) false))), (1, (.fn fg3 fc4)), (7, (.d (.int .i64 ((a1).length : Int)))), (8, (.d (.int .i64 a)))]) (fun a => []) ?_ ?_ n ⟨0, _, _, S0, .refl _ _, .refl _, (WeakE.cons rfl (.refl _) (WeakE.cons rfl (.refl _) (WeakE.cons rfl (.refl _) (WeakE.cons rfl (.refl _) WeakE.nil)))), H0.sel [] (by decide) rfl, h⟩
  · intro a h; simp [slices_IndexFunc__int_int__l13] at h
  ·
    intro k13 x12 S10 H11 h
    replace h : slices_IndexFunc__int_int__l13 a1 p2 (k13 + 1) x12 = some r := h
    replace H11 : Has S0 S10 [] := H11
    unfold slices_IndexFunc__int_int__l13 at h
    refine WpC.seq ?_
    refine WpC.region E.obj rfl ?_
    refine wpO.val rfl (oper_bin rfl rfl binD_lss) rfl ?_
    refine wpO.nil ?_
    refine WpC.seq ?_
    refine WpC.cond rfl (fun hb14 => ?_) (fun hb14 => ?_)
    ·
      replace h := if_t hb14 h
      refine WpC.skip ?_
      refine WpC.seq ?_
      refine WpC.block ?_
      refine WpC.seq ?_
      refine WpC.region E.obj rfl ?_
      refine wpO.val rfl (oper_move rfl) rfl ?_
      refine wpO.val rfl (oper_assign rfl) rfl ?_
      refine wpO.nil ?_
      refine WpC.seq ?_
      refine WpC.region E.obj rfl ?_
      refine wpO.val rfl (oper_move rfl) rfl ?_
      refine wpO.val rfl (oper_move rfl) rfl ?_
      refine wpO.val rfl (oper_move rfl) rfl ?_
      obtain ⟨z15, hzz15, h⟩ := bind_some h
      refine wpO.val rfl (oper_idx rfl rfl (idxAddr (enc := (D.int .i64)) hzz15 el27 as3 (((fun _ => rfl) _).trans sz3.symm))) rfl ?_
      refine wpO.val rfl (oper_loadE rfl (partD_one ag3 rfl)) rfl ?_
      obtain ⟨z16, hzz16, h⟩ := bind_some h
      refine wpO.ret rfl (oper_callV rfl rfl) (hpp2 _ H11.keeps H11.wf _ _ hzz16) rfl ?_
      refine wpO.nil ?_
      refine WpC.cond rfl (fun hb17 => ?_) (fun hb17 => ?_)
      ·
        replace h := if_t hb17 h
        refine WpC.seq ?_
        refine WpC.region E.obj rfl ?_
        refine wpO.val rfl (oper_move rfl) rfl ?_
        refine wpO.val rfl (oper_assign rfl) rfl ?_
        refine wpO.nil ?_
        have hr := Option.some.inj h
        subst hr
        exact WpC.ret ⟨_, rfl, rfl, H11.keeps, end1 (ArgsC.eq .nil)⟩
      ·
        replace h := if_f hb17 h
        refine WpC.skip ?_
        refine WpC.region E.obj rfl ?_
        refine wpO.val rfl (oper_bin rfl rfl binD_add) rfl ?_
        refine wpO.val rfl (oper_move rfl) rfl ?_
        refine wpO.nil ?_
        exact ⟨(IntKind.wrap .i64 (x12 + 1)), _, _, S10, .refl _ _, .refl _, (WeakE.cons rfl (.refl _) (WeakE.cons rfl (.refl _) (WeakE.cons rfl (.refl _) (WeakE.cons rfl (.refl _) WeakE.nil)))), H11.sel [] (by decide) rfl, h⟩
    ·
      replace h := if_f hb14 h
      refine WpC.exit ?_
      refine WpC.seq ?_
      refine WpC.region E.obj rfl ?_
      refine wpO.val rfl (oper_assign rfl) rfl ?_
      refine wpO.nil ?_
      have hr := Option.some.inj h
      subst hr
      exact WpC.ret ⟨_, rfl, rfl, H11.keeps, end1 (ArgsC.eq .nil)⟩
set_option maxRecDepth 20000 in
set_option maxHeartbeats 4000000 in
theorem slices_ContainsFunc__int_int__ok (n : Nat) (S0 : St) (a1 : (List Int)) (fg3 : Nat) (fc4 : List AV) (p2 : Int → Option Bool) (hpp2 : ∀ S', Keeps S0 S' → S'.Wf → ∀ (y0 : Int) (r : Bool), p2 y0 = some r → SpecF R cfg.P fg3 ([.d (.int .i64 y0)] ++ fc4) S' (fun o => o = (none, .d (.bool r), S'))) (r : Bool) (h : slices_ContainsFunc__int_int_ n a1 p2 = some r) : SpecF R cfg.P 32 [.d (.sl ((a1).map (D.int .i64)) false), .fn fg3 fc4] S0 (fun o => o = (none, .d (.bool r), S0)) := by
  unfold slices_ContainsFunc__int_int_ at h
  refine SpecS.of_wp (C := cfg) Tryd.func32 rfl nm32 rfl (fun wf0 => ?_)
  have H0 : Has S0 S0 [] := Has.start wf0
  refine WpC.seq ?_
  refine WpC.region E.obj rfl ?_
  refine wpO.val rfl (oper_assign rfl) rfl ?_
  refine wpO.nil ?_
  refine WpC.seq ?_
  refine WpC.region E.obj rfl ?_
  refine wpO.val rfl (oper_move rfl) rfl ?_
  refine wpO.val rfl (oper_move rfl) rfl ?_
  obtain ⟨z6, hzz6, h⟩ := bind_some h
  refine wpO.ret rfl (oper_callF rfl rfl) (SpecF.argsL (slices_IndexFunc__int_int__ok E n S0 _ _ _ p2 (fun S' hk hw y5 r hr => hpp2 S' (H0.keeps.trans hk) hw y5 r hr) _ hzz6) (.cons (.refl _) (.cons (.refl _) .nil))) rfl ?_
  refine wpO.val rfl (oper_bin rfl rfl binD_geq) rfl ?_
  refine wpO.val rfl (oper_assign rfl) rfl ?_
  refine wpO.nil ?_
  have hr := Option.some.inj h
  subst hr
  exact WpC.ret ⟨_, rfl, rfl, H0.keeps, end1 (ArgsC.eq .nil)⟩
set_option maxRecDepth 20000 in
set_option maxHeartbeats 4000000 in
theorem comp_all_1_ok (n : Nat) (a1 : Int) (r : Bool) (h : comp_all_1 n a1 = some r) : SpecC R cfg.P 33 [(.int .i64 a1)] (.d (.bool r)) := by
  unfold comp_all_1 at h
  refine SpecC.of_wp E.obj.toObjOk (C := cfg) Tryd.func33 rfl nm33 rfl ?_
  have H0 : Has pureSt pureSt [] := Has.pure
  refine WpC.seq ?_
  refine WpC.region E.obj rfl ?_
  refine wpO.val rfl (oper_assign rfl) rfl ?_
  refine wpO.nil ?_
  refine WpC.seq ?_
  refine WpC.region E.obj rfl ?_
  refine wpO.val rfl (oper_move rfl) rfl ?_
  obtain ⟨z2, hzz2, h⟩ := bind_some h
  refine wpO.ret rfl (oper_callF rfl rfl) (comp_may_ok E _ _ _ hzz2 _ _ (ArgsC.eq .nil)) rfl ?_
  refine wpO.val rfl (oper_not rfl) rfl ?_
  refine wpO.val rfl (oper_assign rfl) rfl ?_
  refine wpO.nil ?_
  have hr := Option.some.inj h
  subst hr
  exact WpC.ret ⟨_, rfl, rfl, end1 (ArgsC.eq .nil)⟩
set_option maxRecDepth 20000 in
set_option maxHeartbeats 4000000 in
theorem comp_all_ok (n : Nat) (a1 : (List Int)) (r : Bool) (h : comp_all n a1 = some r) : SpecC R cfg.P 21 [(.sl ((a1).map (D.int .i64)) false)] (.d (.bool r)) := by
  unfold comp_all at h
  refine SpecC.of_wp E.obj.toObjOk (C := cfg) Tryd.func21 rfl nm21 rfl ?_
  have H0 : Has pureSt pureSt [] := Has.pure
  refine WpC.seq ?_
  refine WpC.region E.obj rfl ?_
  refine wpO.val rfl (oper_assign rfl) rfl ?_
  refine wpO.nil ?_
  refine WpC.seq ?_
  refine WpC.region E.obj rfl ?_
  refine wpO.val rfl (oper_move rfl) rfl ?_
  obtain ⟨z3, hzz3, h⟩ := bind_some h
  refine wpO.ret rfl (oper_callF rfl rfl) (SpecF.argsL (slices_ContainsFunc__int_int__ok E n pureSt _ _ _ (fun y2 => comp_all_1 n y2) (fun S' hk hw y2 r hr => comp_all_1_ok E n y2 r hr _ S' (ArgsC.eq .nil)) _ hzz3) (.cons (.refl _) (.cons (.refl _) .nil))) rfl ?_
  refine wpO.val rfl (oper_not rfl) rfl ?_
  refine wpO.val rfl (oper_assign rfl) rfl ?_
  refine wpO.nil ?_
  have hr := Option.some.inj h
  subst hr
  exact WpC.ret ⟨_, rfl, rfl, end1 (ArgsC.eq .nil)⟩
set_option maxRecDepth 20000 in
set_option maxHeartbeats 4000000 in
theorem page_count_ok : ∀ (n : Nat) (a1 : Tpl) (r : (Int × Int)), page_count n a1 = some r → SpecC R cfg.P 34 [(encTpl a1)] (.tup [.d (.int .i64 r.1), .d (.int .i64 r.2)])
  | 0, a1, r, h => by simp [page_count] at h
  | n + 1, a1, r, h => by
    have ih := page_count_ok n
    unfold page_count at h
    refine SpecC.of_wp E.obj.toObjOk (C := cfg) Tryd.func34 rfl nm34 rfl ?_
    have H0 : Has pureSt pureSt [] := Has.pure
    refine WpC.seq ?_
    refine WpC.region E.obj rfl ?_
    refine wpO.box H0 rfl rfl rfl (Tpl.cellsA _) rfl (fun b2 S3 H4 => ?_)
    refine wpO.val rfl (oper_assign rfl) rfl ?_
    refine wpO.val rfl (oper_assign rfl) rfl ?_
    refine wpO.nil ?_
    refine WpC.seq ?_
    refine WpC.region E.obj rfl ?_
    refine wpO.val rfl (oper_assign rfl) rfl ?_
    refine wpO.val rfl (oper_assign rfl) rfl ?_
    refine wpO.nil ?_
    refine WpC.seq ?_
    refine WpC.seq ?_
    refine WpC.region E.obj rfl ?_
    refine wpO.val rfl (oper_fieldAddr rfl fo26_5 nz24 rfl) rfl ?_
    refine wpO.val rfl (oper_load H4 (i := 0) rfl rfl (part_one ag24 rfl)) rfl ?_
    refine wpO.val rfl (oper_lenL rfl es24) rfl ?_
    refine wpO.val rfl (oper_move rfl) rfl ?_
    refine wpO.nil ?_
    refine WpC.block ?_
    refine WpL.start (B := pureSt) (α := Int × Int × Int) (fun k a => page_count_l17 (page_count n) a1 k a.1 a.2.1 a.2.2 = some r) (fun a => [(4, (.d (.int .i64 a.1))), (5, (.d (.int .i64 a.2.1))), (11, (.d (.sl ((a1.Kids).map encTpl) false))), (12, (.d (.int .i64 ((a1.Kids).length : Int)))), (13, (.d (.int .i64 a.2.2)))]) (fun a => []) ?_ ?_ n ⟨⟨1, 0, 0⟩, _, _, S3, .refl _ _, .refl _, (WeakE.cons rfl (.refl _) (WeakE.cons rfl (.refl _) (WeakE.cons rfl (.refl _) (WeakE.cons rfl (.refl _) (WeakE.cons rfl (.refl _) WeakE.nil))))), H4.sel [] (by decide) rfl, h⟩
    · intro a h; simp [page_count_l17] at h
    ·
      intro k17 a S12 H13 h
      obtain ⟨x14, x15, x16⟩ := a
      replace h : page_count_l17 (page_count n) a1 (k17 + 1) x14 x15 x16 = some r := h
      replace H13 : Has pureSt S12 [] := H13
      unfold page_count_l17 at h
      refine WpC.seq ?_
      refine WpC.region E.obj rfl ?_
      refine wpO.val rfl (oper_bin rfl rfl binD_lss) rfl ?_
      refine wpO.nil ?_
      refine WpC.seq ?_
      refine WpC.cond rfl (fun hb18 => ?_) (fun hb18 => ?_)
      ·
        replace h := if_t hb18 h
        refine WpC.skip ?_
        refine WpC.seq ?_
        refine WpC.block ?_
        refine WpC.seq ?_
        refine WpC.region E.obj rfl ?_
        obtain ⟨z19, hzz19, h⟩ := bind_some h
        refine wpO.val rfl (oper_idx rfl rfl (idxAddr (enc := encTpl) hzz19 el24 as26 ((Tpl.len _).trans sz26.symm))) rfl ?_
        refine wpO.val rfl (oper_loadE rfl (Tpl.partW ag26 sz26)) rfl ?_
        refine wpO.alloc H13 rfl ob26 zo26 rfl rfl (fun b20 S21 H22 => ?_)
        refine wpO.store H22 (i := 0) rfl rfl rfl rfl (Tpl.cellsA _) rfl sz26 rfl as26 rfl rfl rfl (fun S23 H24 => ?_)
        refine wpO.nil ?_
        refine WpC.seq ?_
        refine WpC.region E.obj rfl ?_
        refine wpO.val rfl (oper_load H24 (i := 0) rfl rfl (part_agg ag26 sz26 rfl)) rfl ?_
        refine wpO.less (Less.agg' (d := encTpl z19) (CellsC.eq rfl (CellsC.eq rfl (CellsC.eq rfl (CellsC.eq rfl (CellsC.eq rfl (CellsC.eq rfl .nil)))))) ((Tpl.eq _).trans rfl)) ?_
        obtain ⟨z25, hzz25, h⟩ := bind_some h
        refine wpO.ret rfl (oper_callF rfl rfl) (ih _ _ hzz25 _ _ (ArgsC.eq .nil)) rfl ?_
        refine wpO.val rfl (oper_move rfl) rfl ?_
        refine wpO.val rfl (oper_extract rfl rfl) rfl ?_
        refine wpO.val rfl (oper_extract rfl rfl) rfl ?_
        refine wpO.val rfl (oper_assign rfl) rfl ?_
        refine wpO.val rfl (oper_assign rfl) rfl ?_
        refine wpO.nil ?_
        refine WpC.region E.obj rfl ?_
        refine wpO.val rfl (oper_move rfl) rfl ?_
        refine wpO.val rfl (oper_move rfl) rfl ?_
        refine wpO.val rfl (oper_bin rfl rfl binD_add) rfl ?_
        refine wpO.val rfl (oper_move rfl) rfl ?_
        refine wpO.val rfl (oper_move rfl) rfl ?_
        refine wpO.val rfl (oper_max rfl rfl) rfl ?_
        refine wpO.val rfl (oper_assign rfl) rfl ?_
        refine wpO.val rfl (oper_assign rfl) rfl ?_
        refine wpO.nil ?_
        refine WpC.region E.obj rfl ?_
        refine wpO.val rfl (oper_bin rfl rfl binD_add) rfl ?_
        refine wpO.val rfl (oper_move rfl) rfl ?_
        refine wpO.nil ?_
        exact ⟨⟨(IntKind.wrap .i64 (x14 + z25.1)), (maxI x15 z25.2), (IntKind.wrap .i64 (x16 + 1))⟩, _, _, S23, .refl _ _, .refl _, (WeakE.cons rfl (.refl _) (WeakE.cons rfl (.refl _) (WeakE.cons rfl (.refl _) (WeakE.cons rfl (.refl _) (WeakE.cons rfl (.refl _) WeakE.nil))))), H24.sel [] (by decide) rfl, h⟩
      ·
        replace h := if_f hb18 h
        refine WpC.exit ?_
        refine WpC.seq ?_
        refine WpC.region E.obj rfl ?_
        refine wpO.val rfl (oper_move rfl) rfl ?_
        refine wpO.val rfl (oper_move rfl) rfl ?_
        refine wpO.val rfl (oper_bin rfl rfl binD_add) rfl ?_
        refine wpO.val rfl (oper_assign rfl) rfl ?_
        refine wpO.val rfl (oper_assign rfl) rfl ?_
        refine wpO.nil ?_
        have hr := Option.some.inj h
        subst hr
        exact WpC.ret ⟨_, rfl, rfl, endN (vs := [(.d (.int .i64 x14)), (.d (.int .i64 (IntKind.wrap .i64 (x15 + 1))))]) (ds := [(.int .i64 x14), (.int .i64 (IntKind.wrap .i64 (x15 + 1)))]) (ArgsC.eq (ArgsC.eq .nil))⟩
set_option maxRecDepth 20000 in
set_option maxHeartbeats 4000000 in
theorem page_right_ok : ∀ (n : Nat) (a1 : Tpl) (a2 : Int) (a3 : Bool) (r : Bool), page_right n a1 a2 a3 = some r → SpecC R cfg.P 35 [(encTpl a1), (.int .i64 a2), (.bool a3)] (.d (.bool r))
  | 0, a1, a2, a3, r, h => by simp [page_right] at h
  | n + 1, a1, a2, a3, r, h => by
    have ih := page_right_ok n
    unfold page_right at h
    refine SpecC.of_wp E.obj.toObjOk (C := cfg) Tryd.func35 rfl nm35 rfl ?_
    have H0 : Has pureSt pureSt [] := Has.pure
    refine WpC.seq ?_
    refine WpC.region E.obj rfl ?_
    refine wpO.box H0 rfl rfl rfl (Tpl.cellsA _) rfl (fun b4 S5 H6 => ?_)
    refine wpO.val rfl (oper_assign rfl) rfl ?_
    refine wpO.nil ?_
    refine WpC.seq ?_
    refine WpC.region E.obj rfl ?_
    refine wpO.val rfl (oper_fieldAddr rfl fo26_1 nz3 rfl) rfl ?_
    refine wpO.val rfl (oper_load H6 (i := 0) rfl rfl (part_one ag3 rfl)) rfl ?_
    refine wpO.val rfl (oper_bin rfl rfl binD_geq) rfl ?_
    refine wpO.val rfl (oper_move rfl) rfl ?_
    refine wpO.groupV 5 19 (.d (.bool ((decide (0 ≤ a1.N)) && (decide (a1.N < a2))))) ?_ ?_
    ·
      rcases Bool.eq_false_or_eq_true ((decide (0 ≤ a1.N))) with hB7 | hB7
      ·
        refine wpO.bool hB7 ?_
        refine wpO.val rfl (oper_fieldAddr rfl fo26_1 nz3 rfl) rfl ?_
        refine wpO.val rfl (oper_load H6 (i := 0) rfl rfl (part_one ag3 rfl)) rfl ?_
        refine wpO.val rfl (oper_move rfl) rfl ?_
        refine wpO.val rfl (oper_bin rfl rfl binD_lss) rfl ?_
        refine wpO.val rfl (oper_pick (b := true) rfl rfl) rfl ?_
        exact wpO.nil ⟨_, rfl, (WeakE.put (WeakE.push rfl (WeakE.push rfl (WeakE.push rfl (WeakE.push rfl (WeakE.put (.refl _) (Less.eq (by rw [hB7]))))))) (Less.eq (by rw [hB7]; rw [Bool.true_and])))⟩
      ·
        refine wpO.bool hB7 ?_
        refine wpO.no rfl rfl ?_
        refine wpO.no rfl rfl ?_
        refine wpO.no rfl rfl ?_
        refine wpO.no rfl rfl ?_
        refine wpO.val rfl (oper_pick (b := false) rfl rfl) rfl ?_
        exact wpO.nil ⟨_, rfl, (WeakE.put (WeakE.push rfl (WeakE.push rfl (WeakE.push rfl (WeakE.push rfl (WeakE.put (.refl _) (Less.eq (by rw [hB7]))))))) (Less.eq (by rw [hB7]; rw [Bool.false_and])))⟩
    ·
      refine wpO.val rfl (oper_assign rfl) rfl ?_
      refine wpO.nil ?_
      refine WpC.seq ?_
      refine WpC.region E.obj rfl ?_
      refine wpO.val rfl (oper_fieldAddr rfl fo26_0 nz3 rfl) rfl ?_
      refine wpO.val rfl (oper_load H6 (i := 0) rfl rfl (part_one ag3 rfl)) rfl ?_
      refine wpO.val rfl (oper_bin rfl rfl binD_eql) rfl ?_
      refine wpO.val rfl (oper_move rfl) rfl ?_
      refine wpO.groupV 4 27 (.d (.bool ((a1.Kind == 1) || (a1.Kind == 5)))) ?_ ?_
      ·
        rcases Bool.eq_false_or_eq_true ((a1.Kind == 1)) with hB8 | hB8
        ·
          refine wpO.bool hB8 ?_
          refine wpO.no rfl rfl ?_
          refine wpO.no rfl rfl ?_
          refine wpO.no rfl rfl ?_
          refine wpO.val rfl (oper_pick (b := true) rfl rfl) rfl ?_
          exact wpO.nil ⟨_, rfl, (WeakE.put (WeakE.push rfl (WeakE.push rfl (WeakE.push rfl (WeakE.put (.refl _) (Less.eq (by rw [hB8])))))) (Less.eq (by rw [hB8]; rw [Bool.true_or])))⟩
        ·
          refine wpO.bool hB8 ?_
          refine wpO.val rfl (oper_fieldAddr rfl fo26_0 nz3 rfl) rfl ?_
          refine wpO.val rfl (oper_load H6 (i := 0) rfl rfl (part_one ag3 rfl)) rfl ?_
          refine wpO.val rfl (oper_bin rfl rfl binD_eql) rfl ?_
          refine wpO.val rfl (oper_pick (b := false) rfl rfl) rfl ?_
          exact wpO.nil ⟨_, rfl, (WeakE.put (WeakE.push rfl (WeakE.push rfl (WeakE.push rfl (WeakE.put (.refl _) (Less.eq (by rw [hB8])))))) (Less.eq (by rw [hB8]; rw [Bool.false_or])))⟩
      ·
        refine wpO.val rfl (oper_move rfl) rfl ?_
        refine wpO.groupV 4 32 (.d (.bool (((a1.Kind == 1) || (a1.Kind == 5)) || (a1.Kind == 6)))) ?_ ?_
        ·
          rcases Bool.eq_false_or_eq_true (((a1.Kind == 1) || (a1.Kind == 5))) with hB9 | hB9
          ·
            refine wpO.bool hB9 ?_
            refine wpO.no rfl rfl ?_
            refine wpO.no rfl rfl ?_
            refine wpO.no rfl rfl ?_
            refine wpO.val rfl (oper_pick (b := true) rfl rfl) rfl ?_
            exact wpO.nil ⟨_, rfl, (WeakE.put (WeakE.push rfl (WeakE.push rfl (WeakE.push rfl (WeakE.put (.refl _) (Less.eq (by rw [hB9])))))) (Less.eq (by rw [hB9]; rw [Bool.true_or])))⟩
          ·
            refine wpO.bool hB9 ?_
            refine wpO.val rfl (oper_fieldAddr rfl fo26_0 nz3 rfl) rfl ?_
            refine wpO.val rfl (oper_load H6 (i := 0) rfl rfl (part_one ag3 rfl)) rfl ?_
            refine wpO.val rfl (oper_bin rfl rfl binD_eql) rfl ?_
            refine wpO.val rfl (oper_pick (b := false) rfl rfl) rfl ?_
            exact wpO.nil ⟨_, rfl, (WeakE.put (WeakE.push rfl (WeakE.push rfl (WeakE.push rfl (WeakE.put (.refl _) (Less.eq (by rw [hB9])))))) (Less.eq (by rw [hB9]; rw [Bool.false_or])))⟩
        ·
          refine wpO.val rfl (oper_assign rfl) rfl ?_
          refine wpO.nil ?_
          refine WpC.seq ?_
          refine WpC.block ?_
          refine WpC.seq ?_
          refine WpC.region E.obj rfl ?_
          refine wpO.val rfl (oper_fieldAddr rfl fo26_0 nz3 rfl) rfl ?_
          refine wpO.val rfl (oper_load H6 (i := 0) rfl rfl (part_one ag3 rfl)) rfl ?_
          refine wpO.val rfl (oper_bin rfl rfl binD_lss) rfl ?_
          refine wpO.val rfl (oper_move rfl) rfl ?_
          refine wpO.groupV 4 41 (.d (.bool ((decide (a1.Kind < 1)) || (decide (7 < a1.Kind))))) ?_ ?_
          ·
            rcases Bool.eq_false_or_eq_true ((decide (a1.Kind < 1))) with hB10 | hB10
            ·
              refine wpO.bool hB10 ?_
              refine wpO.no rfl rfl ?_
              refine wpO.no rfl rfl ?_
              refine wpO.no rfl rfl ?_
              refine wpO.val rfl (oper_pick (b := true) rfl rfl) rfl ?_
              exact wpO.nil ⟨_, rfl, (WeakE.put (WeakE.push rfl (WeakE.push rfl (WeakE.push rfl (WeakE.put (.refl _) (Less.eq (by rw [hB10])))))) (Less.eq (by rw [hB10]; rw [Bool.true_or])))⟩
            ·
              refine wpO.bool hB10 ?_
              refine wpO.val rfl (oper_fieldAddr rfl fo26_0 nz3 rfl) rfl ?_
              refine wpO.val rfl (oper_load H6 (i := 0) rfl rfl (part_one ag3 rfl)) rfl ?_
              refine wpO.val rfl (oper_bin rfl rfl binD_gtr) rfl ?_
              refine wpO.val rfl (oper_pick (b := false) rfl rfl) rfl ?_
              exact wpO.nil ⟨_, rfl, (WeakE.put (WeakE.push rfl (WeakE.push rfl (WeakE.push rfl (WeakE.put (.refl _) (Less.eq (by rw [hB10])))))) (Less.eq (by rw [hB10]; rw [Bool.false_or])))⟩
          ·
            refine wpO.val rfl (oper_move rfl) rfl ?_
            refine wpO.groupV 9 51 (.d (.bool (((decide (a1.Kind < 1)) || (decide (7 < a1.Kind))) || ((!(((a1.Kind == 1) || (a1.Kind == 5)) || (a1.Kind == 6))) && (decide (0 < ((a1.Kids).length : Int))))))) ?_ ?_
            ·
              rcases Bool.eq_false_or_eq_true (((decide (a1.Kind < 1)) || (decide (7 < a1.Kind)))) with hB11 | hB11
              ·
                refine wpO.bool hB11 ?_
                refine wpO.no rfl rfl ?_
                refine wpO.no rfl rfl ?_
                refine wpO.no rfl rfl ?_
                refine wpO.no rfl rfl ?_
                refine wpO.no rfl rfl ?_
                refine wpO.no rfl rfl ?_
                refine wpO.no rfl rfl ?_
                refine wpO.no rfl rfl ?_
                refine wpO.val rfl (oper_pick (b := true) rfl rfl) rfl ?_
                exact wpO.nil ⟨_, rfl, (WeakE.put (WeakE.push rfl (WeakE.push rfl (WeakE.push rfl (WeakE.push rfl (WeakE.push rfl (WeakE.push rfl (WeakE.push rfl (WeakE.push rfl (WeakE.put (.refl _) (Less.eq (by rw [hB11]))))))))))) (Less.eq (by rw [hB11]; rw [Bool.true_or])))⟩
              ·
                refine wpO.bool hB11 ?_
                refine wpO.val rfl (oper_move rfl) rfl ?_
                refine wpO.val rfl (oper_not rfl) rfl ?_
                refine wpO.val rfl (oper_move rfl) rfl ?_
                refine wpO.groupV 5 50 (.d (.bool ((!(((a1.Kind == 1) || (a1.Kind == 5)) || (a1.Kind == 6))) && (decide (0 < ((a1.Kids).length : Int)))))) ?_ ?_
                ·
                  rcases Bool.eq_false_or_eq_true ((!(((a1.Kind == 1) || (a1.Kind == 5)) || (a1.Kind == 6)))) with hB12 | hB12
                  ·
                    refine wpO.bool hB12 ?_
                    refine wpO.val rfl (oper_fieldAddr rfl fo26_5 nz24 rfl) rfl ?_
                    refine wpO.val rfl (oper_load H6 (i := 0) rfl rfl (part_one ag24 rfl)) rfl ?_
                    refine wpO.val rfl (oper_lenL rfl es24) rfl ?_
                    refine wpO.val rfl (oper_bin rfl rfl binD_gtr) rfl ?_
                    refine wpO.val rfl (oper_pick (b := true) rfl rfl) rfl ?_
                    exact wpO.nil ⟨_, rfl, (WeakE.put (WeakE.push rfl (WeakE.push rfl (WeakE.push rfl (WeakE.push rfl (WeakE.put (.refl _) (Less.eq (by rw [hB12]))))))) (Less.eq (by rw [hB12]; rw [Bool.true_and])))⟩
                  ·
                    refine wpO.bool hB12 ?_
                    refine wpO.no rfl rfl ?_
                    refine wpO.no rfl rfl ?_
                    refine wpO.no rfl rfl ?_
                    refine wpO.no rfl rfl ?_
                    refine wpO.val rfl (oper_pick (b := false) rfl rfl) rfl ?_
                    exact wpO.nil ⟨_, rfl, (WeakE.put (WeakE.push rfl (WeakE.push rfl (WeakE.push rfl (WeakE.push rfl (WeakE.put (.refl _) (Less.eq (by rw [hB12]))))))) (Less.eq (by rw [hB12]; rw [Bool.false_and])))⟩
                ·
                  refine wpO.val rfl (oper_pick (b := false) rfl rfl) rfl ?_
                  exact wpO.nil ⟨_, rfl, (WeakE.put (WeakE.push rfl (WeakE.push rfl (WeakE.push rfl (WeakE.push rfl (WeakE.put (.refl _) (Less.eq (by rw [hB11]))))))) (Less.eq (by rw [hB11]; rw [Bool.false_or])))⟩
            ·
              refine wpO.val rfl (oper_assign rfl) rfl ?_
              refine wpO.nil ?_
              refine WpC.cond rfl (fun hb13 => ?_) (fun hb13 => ?_)
              ·
                replace h := if_t hb13 h
                refine WpC.seq ?_
                refine WpC.region E.obj rfl ?_
                refine wpO.val rfl (oper_assign rfl) rfl ?_
                refine wpO.nil ?_
                have hr := Option.some.inj h
                subst hr
                exact WpC.ret ⟨_, rfl, rfl, end1 (ArgsC.eq .nil)⟩
              ·
                replace h := if_f hb13 h
                refine WpC.join (B := pureSt) (α := Bool) (fun a => page_right_j17 n (page_right n) a1 a2 a3 a = some r) (fun a => [(1, (.d (.int .i64 a2))), (2, (.d (.bool a3))), (3, (.ptr b4 0 0)), (7, (.d (.bool ((decide (0 ≤ a1.N)) && (decide (a1.N < a2)))))), (52, (.d (.bool a)))]) (fun a => [.box b4 [(.d (.int .i64 a1.Kind)), (.d (.int .i64 a1.N)), (.d (.str a1.Tag)), (.d (.str a1.Text)), (.d (.sl ((a1.Attrs).map encAttr) false)), (.d (.sl ((a1.Kids).map encTpl) false))]]) ?_ ?_
                ·
                  intro x16 S14 H15 h
                  replace h : page_right_j17 n (page_right n) a1 a2 a3 x16 = some r := h
                  replace H15 : Has pureSt S14 [.box b4 [(.d (.int .i64 a1.Kind)), (.d (.int .i64 a1.N)), (.d (.str a1.Tag)), (.d (.str a1.Text)), (.d (.sl ((a1.Attrs).map encAttr) false)), (.d (.sl ((a1.Kids).map encTpl) false))]] := H15
                  unfold page_right_j17 at h
                  refine WpC.cond rfl (fun hb18 => ?_) (fun hb18 => ?_)
                  ·
                    replace h := if_t hb18 h
                    refine WpC.seq ?_
                    refine WpC.region E.obj rfl ?_
                    refine wpO.val rfl (oper_assign rfl) rfl ?_
                    refine wpO.nil ?_
                    have hr := Option.some.inj h
                    subst hr
                    exact WpC.ret ⟨_, rfl, rfl, end1 (ArgsC.eq .nil)⟩
                  ·
                    replace h := if_f hb18 h
                    refine WpC.seq ?_
                    refine WpC.region E.obj rfl ?_
                    refine wpO.val rfl (oper_fieldAddr rfl fo26_0 nz3 rfl) rfl ?_
                    refine wpO.val rfl (oper_load H15 (i := 0) rfl rfl (part_one ag3 rfl)) rfl ?_
                    refine wpO.val rfl (oper_bin rfl rfl binD_eql) rfl ?_
                    refine wpO.val rfl (oper_move rfl) rfl ?_
                    refine wpO.groupV 4 70 (.d (.bool ((a1.Kind == 3) || (a1.Kind == 5)))) ?_ ?_
                    ·
                      rcases Bool.eq_false_or_eq_true ((a1.Kind == 3)) with hB19 | hB19
                      ·
                        refine wpO.bool hB19 ?_
                        refine wpO.no rfl rfl ?_
                        refine wpO.no rfl rfl ?_
                        refine wpO.no rfl rfl ?_
                        refine wpO.val rfl (oper_pick (b := true) rfl rfl) rfl ?_
                        exact wpO.nil ⟨_, rfl, (WeakE.put (WeakE.push rfl (WeakE.push rfl (WeakE.push rfl (WeakE.put (.refl _) (Less.eq (by rw [hB19])))))) (Less.eq (by rw [hB19]; rw [Bool.true_or])))⟩
                      ·
                        refine wpO.bool hB19 ?_
                        refine wpO.val rfl (oper_fieldAddr rfl fo26_0 nz3 rfl) rfl ?_
                        refine wpO.val rfl (oper_load H15 (i := 0) rfl rfl (part_one ag3 rfl)) rfl ?_
                        refine wpO.val rfl (oper_bin rfl rfl binD_eql) rfl ?_
                        refine wpO.val rfl (oper_pick (b := false) rfl rfl) rfl ?_
                        exact wpO.nil ⟨_, rfl, (WeakE.put (WeakE.push rfl (WeakE.push rfl (WeakE.push rfl (WeakE.put (.refl _) (Less.eq (by rw [hB19])))))) (Less.eq (by rw [hB19]; rw [Bool.false_or])))⟩
                    ·
                      refine wpO.val rfl (oper_move rfl) rfl ?_
                      refine wpO.groupV 4 75 (.d (.bool (((a1.Kind == 3) || (a1.Kind == 5)) || (a1.Kind == 6)))) ?_ ?_
                      ·
                        rcases Bool.eq_false_or_eq_true (((a1.Kind == 3) || (a1.Kind == 5))) with hB20 | hB20
                        ·
                          refine wpO.bool hB20 ?_
                          refine wpO.no rfl rfl ?_
                          refine wpO.no rfl rfl ?_
                          refine wpO.no rfl rfl ?_
                          refine wpO.val rfl (oper_pick (b := true) rfl rfl) rfl ?_
                          exact wpO.nil ⟨_, rfl, (WeakE.put (WeakE.push rfl (WeakE.push rfl (WeakE.push rfl (WeakE.put (.refl _) (Less.eq (by rw [hB20])))))) (Less.eq (by rw [hB20]; rw [Bool.true_or])))⟩
                        ·
                          refine wpO.bool hB20 ?_
                          refine wpO.val rfl (oper_fieldAddr rfl fo26_0 nz3 rfl) rfl ?_
                          refine wpO.val rfl (oper_load H15 (i := 0) rfl rfl (part_one ag3 rfl)) rfl ?_
                          refine wpO.val rfl (oper_bin rfl rfl binD_eql) rfl ?_
                          refine wpO.val rfl (oper_pick (b := false) rfl rfl) rfl ?_
                          exact wpO.nil ⟨_, rfl, (WeakE.put (WeakE.push rfl (WeakE.push rfl (WeakE.push rfl (WeakE.put (.refl _) (Less.eq (by rw [hB20])))))) (Less.eq (by rw [hB20]; rw [Bool.false_or])))⟩
                      ·
                        refine wpO.val rfl (oper_move rfl) rfl ?_
                        refine wpO.groupV 3 79 (.d (.bool ((((a1.Kind == 3) || (a1.Kind == 5)) || (a1.Kind == 6)) && (!((decide (0 ≤ a1.N)) && (decide (a1.N < a2))))))) ?_ ?_
                        ·
                          rcases Bool.eq_false_or_eq_true ((((a1.Kind == 3) || (a1.Kind == 5)) || (a1.Kind == 6))) with hB21 | hB21
                          ·
                            refine wpO.bool hB21 ?_
                            refine wpO.val rfl (oper_move rfl) rfl ?_
                            refine wpO.val rfl (oper_not rfl) rfl ?_
                            refine wpO.val rfl (oper_pick (b := true) rfl rfl) rfl ?_
                            exact wpO.nil ⟨_, rfl, (WeakE.put (WeakE.push rfl (WeakE.push rfl (WeakE.put (.refl _) (Less.eq (by rw [hB21]))))) (Less.eq (by rw [hB21]; rw [Bool.true_and])))⟩
                          ·
                            refine wpO.bool hB21 ?_
                            refine wpO.no rfl rfl ?_
                            refine wpO.no rfl rfl ?_
                            refine wpO.val rfl (oper_pick (b := false) rfl rfl) rfl ?_
                            exact wpO.nil ⟨_, rfl, (WeakE.put (WeakE.push rfl (WeakE.push rfl (WeakE.put (.refl _) (Less.eq (by rw [hB21]))))) (Less.eq (by rw [hB21]; rw [Bool.false_and])))⟩
                        ·
                          refine wpO.val rfl (oper_assign rfl) rfl ?_
                          refine wpO.nil ?_
                          refine WpC.cond rfl (fun hb22 => ?_) (fun hb22 => ?_)
                          ·
                            replace h := if_t hb22 h
                            refine WpC.seq ?_
                            refine WpC.region E.obj rfl ?_
                            refine wpO.val rfl (oper_assign rfl) rfl ?_
                            refine wpO.nil ?_
                            have hr := Option.some.inj h
                            subst hr
                            exact WpC.ret ⟨_, rfl, rfl, end1 (ArgsC.eq .nil)⟩
                          ·
                            replace h := if_f hb22 h
                            refine WpC.skip ?_
                            refine WpC.seq ?_
                            refine WpC.region E.obj rfl ?_
                            refine wpO.val rfl (oper_move rfl) rfl ?_
                            refine wpO.val rfl (oper_move rfl) rfl ?_
                            refine wpO.groupV 4 85 (.d (.bool (a3 || (a1.Kind == 5)))) ?_ ?_
                            ·
                              rcases Bool.eq_false_or_eq_true (a3) with hB23 | hB23
                              ·
                                refine wpO.bool hB23 ?_
                                refine wpO.no rfl rfl ?_
                                refine wpO.no rfl rfl ?_
                                refine wpO.no rfl rfl ?_
                                refine wpO.val rfl (oper_pick (b := true) rfl rfl) rfl ?_
                                exact wpO.nil ⟨_, rfl, (WeakE.put (WeakE.push rfl (WeakE.push rfl (WeakE.push rfl (WeakE.put (.refl _) (Less.eq (by rw [hB23])))))) (Less.eq (by rw [hB23]; rw [Bool.true_or])))⟩
                              ·
                                refine wpO.bool hB23 ?_
                                refine wpO.val rfl (oper_fieldAddr rfl fo26_0 nz3 rfl) rfl ?_
                                refine wpO.val rfl (oper_load H15 (i := 0) rfl rfl (part_one ag3 rfl)) rfl ?_
                                refine wpO.val rfl (oper_bin rfl rfl binD_eql) rfl ?_
                                refine wpO.val rfl (oper_pick (b := false) rfl rfl) rfl ?_
                                exact wpO.nil ⟨_, rfl, (WeakE.put (WeakE.push rfl (WeakE.push rfl (WeakE.push rfl (WeakE.put (.refl _) (Less.eq (by rw [hB23])))))) (Less.eq (by rw [hB23]; rw [Bool.false_or])))⟩
                            ·
                              refine wpO.val rfl (oper_move rfl) rfl ?_
                              refine wpO.groupV 4 90 (.d (.bool ((a3 || (a1.Kind == 5)) || (a1.Kind == 6)))) ?_ ?_
                              ·
                                rcases Bool.eq_false_or_eq_true ((a3 || (a1.Kind == 5))) with hB24 | hB24
                                ·
                                  refine wpO.bool hB24 ?_
                                  refine wpO.no rfl rfl ?_
                                  refine wpO.no rfl rfl ?_
                                  refine wpO.no rfl rfl ?_
                                  refine wpO.val rfl (oper_pick (b := true) rfl rfl) rfl ?_
                                  exact wpO.nil ⟨_, rfl, (WeakE.put (WeakE.push rfl (WeakE.push rfl (WeakE.push rfl (WeakE.put (.refl _) (Less.eq (by rw [hB24])))))) (Less.eq (by rw [hB24]; rw [Bool.true_or])))⟩
                                ·
                                  refine wpO.bool hB24 ?_
                                  refine wpO.val rfl (oper_fieldAddr rfl fo26_0 nz3 rfl) rfl ?_
                                  refine wpO.val rfl (oper_load H15 (i := 0) rfl rfl (part_one ag3 rfl)) rfl ?_
                                  refine wpO.val rfl (oper_bin rfl rfl binD_eql) rfl ?_
                                  refine wpO.val rfl (oper_pick (b := false) rfl rfl) rfl ?_
                                  exact wpO.nil ⟨_, rfl, (WeakE.put (WeakE.push rfl (WeakE.push rfl (WeakE.push rfl (WeakE.put (.refl _) (Less.eq (by rw [hB24])))))) (Less.eq (by rw [hB24]; rw [Bool.false_or])))⟩
                              ·
                                refine wpO.val rfl (oper_assign rfl) rfl ?_
                                refine wpO.nil ?_
                                refine WpC.seq ?_
                                refine WpC.seq ?_
                                refine WpC.region E.obj rfl ?_
                                refine wpO.val rfl (oper_fieldAddr rfl fo26_5 nz24 rfl) rfl ?_
                                refine wpO.val rfl (oper_load H15 (i := 0) rfl rfl (part_one ag24 rfl)) rfl ?_
                                refine wpO.val rfl (oper_lenL rfl es24) rfl ?_
                                refine wpO.val rfl (oper_move rfl) rfl ?_
                                refine wpO.nil ?_
                                refine WpC.block ?_
                                refine WpL.start (B := pureSt) (α := Int) (fun k a => page_right_l33 (page_right n) a1 a2 a3 k a = some r) (fun a => [(1, (.d (.int .i64 a2))), (2, (.d (.bool ((a3 || (a1.Kind == 5)) || (a1.Kind == 6))))), (92, (.d (.sl ((a1.Kids).map encTpl) false))), (93, (.d (.int .i64 ((a1.Kids).length : Int)))), (94, (.d (.int .i64 a)))]) (fun a => []) ?_ ?_ n ⟨0, _, _, S14, .refl _ _, .refl _, (WeakE.cons rfl (.refl _) (WeakE.cons rfl (.refl _) (WeakE.cons rfl (.refl _) (WeakE.cons rfl (.refl _) (WeakE.cons rfl (.refl _) WeakE.nil))))), H15.sel [] (by decide) rfl, h⟩
                                · intro a h; simp [page_right_l33] at h
                                ·
                                  intro k33 x32 S30 H31 h
                                  replace h : page_right_l33 (page_right n) a1 a2 a3 (k33 + 1) x32 = some r := h
                                  replace H31 : Has pureSt S30 [] := H31
                                  unfold page_right_l33 at h
                                  refine WpC.seq ?_
                                  refine WpC.region E.obj rfl ?_
                                  refine wpO.val rfl (oper_bin rfl rfl binD_lss) rfl ?_
                                  refine wpO.nil ?_
                                  refine WpC.seq ?_
                                  refine WpC.cond rfl (fun hb34 => ?_) (fun hb34 => ?_)
                                  ·
                                    replace h := if_t hb34 h
                                    refine WpC.skip ?_
                                    refine WpC.seq ?_
                                    refine WpC.block ?_
                                    refine WpC.seq ?_
                                    refine WpC.region E.obj rfl ?_
                                    obtain ⟨z35, hzz35, h⟩ := bind_some h
                                    refine wpO.val rfl (oper_idx rfl rfl (idxAddr (enc := encTpl) hzz35 el24 as26 ((Tpl.len _).trans sz26.symm))) rfl ?_
                                    refine wpO.val rfl (oper_loadE rfl (Tpl.partW ag26 sz26)) rfl ?_
                                    refine wpO.alloc H31 rfl ob26 zo26 rfl rfl (fun b36 S37 H38 => ?_)
                                    refine wpO.store H38 (i := 0) rfl rfl rfl rfl (Tpl.cellsA _) rfl sz26 rfl as26 rfl rfl rfl (fun S39 H40 => ?_)
                                    refine wpO.nil ?_
                                    refine WpC.seq ?_
                                    refine WpC.region E.obj rfl ?_
                                    refine wpO.val rfl (oper_load H40 (i := 0) rfl rfl (part_agg ag26 sz26 rfl)) rfl ?_
                                    refine wpO.less (Less.agg' (d := encTpl z35) (CellsC.eq rfl (CellsC.eq rfl (CellsC.eq rfl (CellsC.eq rfl (CellsC.eq rfl (CellsC.eq rfl .nil)))))) ((Tpl.eq _).trans rfl)) ?_
                                    refine wpO.val rfl (oper_move rfl) rfl ?_
                                    refine wpO.val rfl (oper_move rfl) rfl ?_
                                    obtain ⟨z41, hzz41, h⟩ := bind_some h
                                    refine wpO.ret rfl (oper_callF rfl rfl) (ih _ _ _ _ hzz41 _ _ (ArgsC.eq (ArgsC.eq (ArgsC.eq .nil)))) rfl ?_
                                    refine wpO.val rfl (oper_not rfl) rfl ?_
                                    refine wpO.nil ?_
                                    refine WpC.cond rfl (fun hb42 => ?_) (fun hb42 => ?_)
                                    ·
                                      replace h := if_t hb42 h
                                      refine WpC.seq ?_
                                      refine WpC.region E.obj rfl ?_
                                      refine wpO.val rfl (oper_assign rfl) rfl ?_
                                      refine wpO.nil ?_
                                      have hr := Option.some.inj h
                                      subst hr
                                      exact WpC.ret ⟨_, rfl, rfl, end1 (ArgsC.eq .nil)⟩
                                    ·
                                      replace h := if_f hb42 h
                                      refine WpC.skip ?_
                                      refine WpC.region E.obj rfl ?_
                                      refine wpO.val rfl (oper_bin rfl rfl binD_add) rfl ?_
                                      refine wpO.val rfl (oper_move rfl) rfl ?_
                                      refine wpO.nil ?_
                                      exact ⟨(IntKind.wrap .i64 (x32 + 1)), _, _, S39, .refl _ _, .refl _, (WeakE.cons rfl (.refl _) (WeakE.cons rfl (.refl _) (WeakE.cons rfl (.refl _) (WeakE.cons rfl (.refl _) (WeakE.cons rfl (.refl _) WeakE.nil))))), H40.sel [] (by decide) rfl, h⟩
                                  ·
                                    replace h := if_f hb34 h
                                    refine WpC.exit ?_
                                    refine WpC.seq ?_
                                    refine WpC.region E.obj rfl ?_
                                    refine wpO.val rfl (oper_assign rfl) rfl ?_
                                    refine wpO.nil ?_
                                    have hr := Option.some.inj h
                                    subst hr
                                    exact WpC.ret ⟨_, rfl, rfl, end1 (ArgsC.eq .nil)⟩
                ·
                  refine WpC.seq ?_
                  refine WpC.region E.obj rfl ?_
                  refine wpO.val rfl (oper_fieldAddr rfl fo26_2 nz9 rfl) rfl ?_
                  refine wpO.val rfl (oper_load H6 (i := 0) rfl rfl (part_one ag9 rfl)) rfl ?_
                  refine wpO.val rfl (oper_bin rfl rfl binD_seql) rfl ?_
                  refine wpO.val rfl (oper_assign rfl) rfl ?_
                  refine wpO.nil ?_
                  refine WpC.cond rfl (fun hb43 => ?_) (fun hb43 => ?_)
                  ·
                    replace h := if_t hb43 h
                    refine WpC.skip ?_
                    exact ⟨(a1.Tag == [111, 117, 116, 108, 101, 116]), _, _, S5, .refl _ _, .refl _, (WeakE.cons rfl (.refl _) (WeakE.cons rfl (.refl _) (WeakE.cons rfl (.refl _) (WeakE.cons rfl (.refl _) (WeakE.cons rfl (.refl _) WeakE.nil))))), H6.sel [0] (by decide) rfl, h⟩
                  ·
                    replace h := if_f hb43 h
                    refine WpC.region E.obj rfl ?_
                    refine wpO.val rfl (oper_fieldAddr rfl fo26_0 nz3 rfl) rfl ?_
                    refine wpO.val rfl (oper_load H6 (i := 0) rfl rfl (part_one ag3 rfl)) rfl ?_
                    refine wpO.val rfl (oper_bin rfl rfl binD_eql) rfl ?_
                    refine wpO.val rfl (oper_move rfl) rfl ?_
                    refine wpO.groupV 2 61 (.d (.bool ((a1.Kind == 7) && a3))) ?_ ?_
                    ·
                      rcases Bool.eq_false_or_eq_true ((a1.Kind == 7)) with hB44 | hB44
                      ·
                        refine wpO.bool hB44 ?_
                        refine wpO.val rfl (oper_move rfl) rfl ?_
                        refine wpO.val rfl (oper_pick (b := true) rfl rfl) rfl ?_
                        exact wpO.nil ⟨_, rfl, (WeakE.put (WeakE.push rfl (WeakE.put (.refl _) (Less.eq (by rw [hB44])))) (Less.eq (by rw [hB44]; rw [Bool.true_and])))⟩
                      ·
                        refine wpO.bool hB44 ?_
                        refine wpO.no rfl rfl ?_
                        refine wpO.val rfl (oper_pick (b := false) rfl rfl) rfl ?_
                        exact wpO.nil ⟨_, rfl, (WeakE.put (WeakE.push rfl (WeakE.put (.refl _) (Less.eq (by rw [hB44])))) (Less.eq (by rw [hB44]; rw [Bool.false_and])))⟩
                    ·
                      refine wpO.val rfl (oper_assign rfl) rfl ?_
                      refine wpO.nil ?_
                      exact ⟨((a1.Kind == 7) && a3), _, _, S5, .refl _ _, .refl _, (WeakE.cons rfl (.refl _) (WeakE.cons rfl (.refl _) (WeakE.cons rfl (.refl _) (WeakE.cons rfl (.refl _) (WeakE.cons rfl (.refl _) WeakE.nil))))), H6.sel [0] (by decide) rfl, h⟩
set_option maxRecDepth 20000 in
set_option maxHeartbeats 4000000 in
theorem page_Right_ok (n : Nat) (a1 : Tpl) (a2 : Int) (r : Bool) (h : page_Right n a1 a2 = some r) : SpecC R cfg.P 22 [(encTpl a1), (.int .i64 a2)] (.d (.bool r)) := by
  unfold page_Right at h
  refine SpecC.of_wp E.obj.toObjOk (C := cfg) Tryd.func22 rfl nm22 rfl ?_
  have H0 : Has pureSt pureSt [] := Has.pure
  refine WpC.seq ?_
  refine WpC.region E.obj rfl ?_
  refine wpO.box H0 rfl rfl rfl (Tpl.cellsA _) rfl (fun b3 S4 H5 => ?_)
  refine wpO.val rfl (oper_assign rfl) rfl ?_
  refine wpO.nil ?_
  refine WpC.seq ?_
  refine WpC.region E.obj rfl ?_
  refine wpO.val rfl (oper_load H5 (i := 0) rfl rfl (part_agg ag26 sz26 rfl)) rfl ?_
  refine wpO.less (Less.agg' (d := encTpl a1) (CellsC.eq rfl (CellsC.eq rfl (CellsC.eq rfl (CellsC.eq rfl (CellsC.eq rfl (CellsC.eq rfl .nil)))))) ((Tpl.eq _).trans rfl)) ?_
  obtain ⟨z6, hzz6, h⟩ := bind_some h
  refine wpO.ret rfl (oper_callF rfl rfl) (page_count_ok E _ _ _ hzz6 _ _ (ArgsC.eq .nil)) rfl ?_
  refine wpO.val rfl (oper_move rfl) rfl ?_
  refine wpO.val rfl (oper_extract rfl rfl) rfl ?_
  refine wpO.val rfl (oper_extract rfl rfl) rfl ?_
  refine wpO.val rfl (oper_assign rfl) rfl ?_
  refine wpO.val rfl (oper_assign rfl) rfl ?_
  refine wpO.nil ?_
  refine WpC.seq ?_
  refine WpC.region E.obj rfl ?_
  refine wpO.val rfl (oper_fieldAddr rfl fo26_0 nz3 rfl) rfl ?_
  refine wpO.val rfl (oper_load H5 (i := 0) rfl rfl (part_one ag3 rfl)) rfl ?_
  refine wpO.val rfl (oper_bin rfl rfl binD_eql) rfl ?_
  refine wpO.val rfl (oper_move rfl) rfl ?_
  refine wpO.groupV 3 18 (.d (.bool ((a1.Kind == 1) && (decide (z6.1 ≤ 60))))) ?_ ?_
  ·
    rcases Bool.eq_false_or_eq_true ((a1.Kind == 1)) with hB7 | hB7
    ·
      refine wpO.bool hB7 ?_
      refine wpO.val rfl (oper_move rfl) rfl ?_
      refine wpO.val rfl (oper_bin rfl rfl binD_leq) rfl ?_
      refine wpO.val rfl (oper_pick (b := true) rfl rfl) rfl ?_
      exact wpO.nil ⟨_, rfl, (WeakE.put (WeakE.push rfl (WeakE.push rfl (WeakE.put (.refl _) (Less.eq (by rw [hB7]))))) (Less.eq (by rw [hB7]; rw [Bool.true_and])))⟩
    ·
      refine wpO.bool hB7 ?_
      refine wpO.no rfl rfl ?_
      refine wpO.no rfl rfl ?_
      refine wpO.val rfl (oper_pick (b := false) rfl rfl) rfl ?_
      exact wpO.nil ⟨_, rfl, (WeakE.put (WeakE.push rfl (WeakE.push rfl (WeakE.put (.refl _) (Less.eq (by rw [hB7]))))) (Less.eq (by rw [hB7]; rw [Bool.false_and])))⟩
  ·
    refine wpO.val rfl (oper_move rfl) rfl ?_
    refine wpO.groupV 3 22 (.d (.bool (((a1.Kind == 1) && (decide (z6.1 ≤ 60))) && (decide (z6.2 ≤ 12))))) ?_ ?_
    ·
      rcases Bool.eq_false_or_eq_true (((a1.Kind == 1) && (decide (z6.1 ≤ 60)))) with hB8 | hB8
      ·
        refine wpO.bool hB8 ?_
        refine wpO.val rfl (oper_move rfl) rfl ?_
        refine wpO.val rfl (oper_bin rfl rfl binD_leq) rfl ?_
        refine wpO.val rfl (oper_pick (b := true) rfl rfl) rfl ?_
        exact wpO.nil ⟨_, rfl, (WeakE.put (WeakE.push rfl (WeakE.push rfl (WeakE.put (.refl _) (Less.eq (by rw [hB8]))))) (Less.eq (by rw [hB8]; rw [Bool.true_and])))⟩
      ·
        refine wpO.bool hB8 ?_
        refine wpO.no rfl rfl ?_
        refine wpO.no rfl rfl ?_
        refine wpO.val rfl (oper_pick (b := false) rfl rfl) rfl ?_
        exact wpO.nil ⟨_, rfl, (WeakE.put (WeakE.push rfl (WeakE.push rfl (WeakE.put (.refl _) (Less.eq (by rw [hB8]))))) (Less.eq (by rw [hB8]; rw [Bool.false_and])))⟩
    ·
      refine wpO.val rfl (oper_move rfl) rfl ?_
      obtain ⟨z10, hzz10, h⟩ := bind_some h
      refine wpO.groupV 4 27 (.d (.bool z10)) ?_ ?_
      ·
        rcases Bool.eq_false_or_eq_true ((((a1.Kind == 1) && (decide (z6.1 ≤ 60))) && (decide (z6.2 ≤ 12)))) with hB9 | hB9
        ·
          refine wpO.bool hB9 ?_
          replace hzz10 := if_t hB9 hzz10
          refine wpO.val rfl (oper_load H5 (i := 0) rfl rfl (part_agg ag26 sz26 rfl)) rfl ?_
          refine wpO.less (Less.agg' (d := encTpl a1) (CellsC.eq rfl (CellsC.eq rfl (CellsC.eq rfl (CellsC.eq rfl (CellsC.eq rfl (CellsC.eq rfl .nil)))))) ((Tpl.eq _).trans rfl)) ?_
          refine wpO.val rfl (oper_move rfl) rfl ?_
          obtain ⟨z11, hzz11, hzz10⟩ := bind_some hzz10
          refine wpO.ret rfl (oper_callF rfl rfl) (page_right_ok E _ _ _ _ _ hzz11 _ _ (ArgsC.eq (ArgsC.eq (ArgsC.eq .nil)))) rfl ?_
          refine wpO.val rfl (oper_pick (b := true) rfl rfl) rfl ?_
          cases hzz10
          exact wpO.nil ⟨_, rfl, (WeakE.put (WeakE.push rfl (WeakE.push rfl (WeakE.push rfl (WeakE.put (.refl _) (Less.eq (by rw [hB9])))))) (.refl _))⟩
        ·
          refine wpO.bool hB9 ?_
          refine wpO.no rfl rfl ?_
          refine wpO.no rfl rfl ?_
          refine wpO.no rfl rfl ?_
          refine wpO.val rfl (oper_pick (b := false) rfl rfl) rfl ?_
          replace hzz10 := if_f hB9 hzz10
          cases hzz10
          exact wpO.nil ⟨_, rfl, (WeakE.put (WeakE.push rfl (WeakE.push rfl (WeakE.push rfl (WeakE.put (.refl _) (Less.eq (by rw [hB9])))))) (.refl _))⟩
      ·
        refine wpO.val rfl (oper_assign rfl) rfl ?_
        refine wpO.nil ?_
        have hr := Option.some.inj h
        subst hr
        exact WpC.ret ⟨_, rfl, rfl, end1 (ArgsC.eq .nil)⟩
set_option maxRecDepth 20000 in
set_option maxHeartbeats 4000000 in
theorem comp_Right_ok (n : Nat) (a1 : Comp) (r : Bool) (h : comp_Right n a1 = some r) : SpecC R cfg.P 12 [(encComp a1)] (.d (.bool r)) := by
  unfold comp_Right at h
  refine SpecC.of_wp E.obj.toObjOk (C := cfg) Tryd.func12 rfl nm12 rfl ?_
  have H0 : Has pureSt pureSt [] := Has.pure
  refine WpC.seq ?_
  refine WpC.region E.obj rfl ?_
  refine wpO.box H0 rfl rfl rfl (Comp.cellsA _) rfl (fun b2 S3 H4 => ?_)
  refine wpO.val rfl (oper_assign rfl) rfl ?_
  refine wpO.nil ?_
  refine WpC.seq ?_
  refine WpC.seq ?_
  refine WpC.region E.obj rfl ?_
  refine wpO.val rfl (oper_fieldAddr rfl fo32_1 nz27 rfl) rfl ?_
  refine wpO.val rfl (oper_load H4 (i := 0) rfl rfl (part_one ag27 rfl)) rfl ?_
  refine wpO.val rfl (oper_lenL rfl es27) rfl ?_
  refine wpO.val rfl (oper_bin rfl rfl binD_gtr) rfl ?_
  refine wpO.val rfl (oper_move rfl) rfl ?_
  obtain ⟨z6, hzz6, h⟩ := bind_some h
  refine wpO.groupV 5 15 (.d (.bool z6)) ?_ ?_
  ·
    rcases Bool.eq_false_or_eq_true ((decide (6 < ((a1.Init).length : Int)))) with hB5 | hB5
    ·
      refine wpO.bool hB5 ?_
      refine wpO.no rfl rfl ?_
      refine wpO.no rfl rfl ?_
      refine wpO.no rfl rfl ?_
      refine wpO.no rfl rfl ?_
      refine wpO.val rfl (oper_pick (b := true) rfl rfl) rfl ?_
      replace hzz6 := if_t hB5 hzz6
      cases hzz6
      exact wpO.nil ⟨_, rfl, (WeakE.put (WeakE.push rfl (WeakE.push rfl (WeakE.push rfl (WeakE.push rfl (WeakE.put (.refl _) (Less.eq (by rw [hB5]))))))) (.refl _))⟩
    ·
      refine wpO.bool hB5 ?_
      replace hzz6 := if_f hB5 hzz6
      refine wpO.val rfl (oper_fieldAddr rfl fo32_1 nz27 rfl) rfl ?_
      refine wpO.val rfl (oper_load H4 (i := 0) rfl rfl (part_one ag27 rfl)) rfl ?_
      obtain ⟨z7, hzz7, hzz6⟩ := bind_some hzz6
      refine wpO.ret rfl (oper_callF rfl rfl) (comp_all_ok E _ _ _ hzz7 _ _ (ArgsC.eq .nil)) rfl ?_
      refine wpO.val rfl (oper_not rfl) rfl ?_
      refine wpO.val rfl (oper_pick (b := false) rfl rfl) rfl ?_
      cases hzz6
      exact wpO.nil ⟨_, rfl, (WeakE.put (WeakE.push rfl (WeakE.push rfl (WeakE.push rfl (WeakE.push rfl (WeakE.put (.refl _) (Less.eq (by rw [hB5]))))))) (.refl _))⟩
  ·
    refine wpO.val rfl (oper_move rfl) rfl ?_
    refine wpO.groupV 5 21 (.d (.bool (z6 || (decide (24 < ((a1.On).length : Int)))))) ?_ ?_
    ·
      rcases Bool.eq_false_or_eq_true (z6) with hB8 | hB8
      ·
        refine wpO.bool hB8 ?_
        refine wpO.no rfl rfl ?_
        refine wpO.no rfl rfl ?_
        refine wpO.no rfl rfl ?_
        refine wpO.no rfl rfl ?_
        refine wpO.val rfl (oper_pick (b := true) rfl rfl) rfl ?_
        exact wpO.nil ⟨_, rfl, (WeakE.put (WeakE.push rfl (WeakE.push rfl (WeakE.push rfl (WeakE.push rfl (WeakE.put (.refl _) (Less.eq (by rw [hB8]))))))) (Less.eq (by rw [hB8]; rw [Bool.true_or])))⟩
      ·
        refine wpO.bool hB8 ?_
        refine wpO.val rfl (oper_fieldAddr rfl fo32_2 nz30 rfl) rfl ?_
        refine wpO.val rfl (oper_load H4 (i := 0) rfl rfl (part_one ag30 rfl)) rfl ?_
        refine wpO.val rfl (oper_lenL rfl es30) rfl ?_
        refine wpO.val rfl (oper_bin rfl rfl binD_gtr) rfl ?_
        refine wpO.val rfl (oper_pick (b := false) rfl rfl) rfl ?_
        exact wpO.nil ⟨_, rfl, (WeakE.put (WeakE.push rfl (WeakE.push rfl (WeakE.push rfl (WeakE.push rfl (WeakE.put (.refl _) (Less.eq (by rw [hB8]))))))) (Less.eq (by rw [hB8]; rw [Bool.false_or])))⟩
    ·
      refine wpO.val rfl (oper_move rfl) rfl ?_
      obtain ⟨z10, hzz10, h⟩ := bind_some h
      refine wpO.groupV 8 30 (.d (.bool z10)) ?_ ?_
      ·
        rcases Bool.eq_false_or_eq_true ((z6 || (decide (24 < ((a1.On).length : Int))))) with hB9 | hB9
        ·
          refine wpO.bool hB9 ?_
          refine wpO.no rfl rfl ?_
          refine wpO.no rfl rfl ?_
          refine wpO.no rfl rfl ?_
          refine wpO.no rfl rfl ?_
          refine wpO.no rfl rfl ?_
          refine wpO.no rfl rfl ?_
          refine wpO.no rfl rfl ?_
          refine wpO.val rfl (oper_pick (b := true) rfl rfl) rfl ?_
          replace hzz10 := if_t hB9 hzz10
          cases hzz10
          exact wpO.nil ⟨_, rfl, (WeakE.put (WeakE.push rfl (WeakE.push rfl (WeakE.push rfl (WeakE.push rfl (WeakE.push rfl (WeakE.push rfl (WeakE.push rfl (WeakE.put (.refl _) (Less.eq (by rw [hB9])))))))))) (.refl _))⟩
        ·
          refine wpO.bool hB9 ?_
          replace hzz10 := if_f hB9 hzz10
          refine wpO.val rfl (oper_fieldAddr rfl fo32_0 nz26 rfl) rfl ?_
          refine wpO.val rfl (oper_load H4 (i := 0) rfl rfl (part_agg ag26 sz26 rfl)) rfl ?_
          refine wpO.less (Less.agg' (d := encTpl a1.Tpl) (CellsC.eq rfl (CellsC.eq rfl (CellsC.eq rfl (CellsC.eq rfl (CellsC.eq rfl (CellsC.eq rfl .nil)))))) ((Tpl.eq _).trans rfl)) ?_
          refine wpO.val rfl (oper_fieldAddr rfl fo32_1 nz27 rfl) rfl ?_
          refine wpO.val rfl (oper_load H4 (i := 0) rfl rfl (part_one ag27 rfl)) rfl ?_
          refine wpO.val rfl (oper_lenL rfl es27) rfl ?_
          obtain ⟨z11, hzz11, hzz10⟩ := bind_some hzz10
          refine wpO.ret rfl (oper_callF rfl rfl) (page_Right_ok E _ _ _ _ hzz11 _ _ (ArgsC.eq (ArgsC.eq .nil))) rfl ?_
          refine wpO.val rfl (oper_not rfl) rfl ?_
          refine wpO.val rfl (oper_pick (b := false) rfl rfl) rfl ?_
          cases hzz10
          exact wpO.nil ⟨_, rfl, (WeakE.put (WeakE.push rfl (WeakE.push rfl (WeakE.push rfl (WeakE.push rfl (WeakE.push rfl (WeakE.push rfl (WeakE.push rfl (WeakE.put (.refl _) (Less.eq (by rw [hB9])))))))))) (.refl _))⟩
      ·
        refine wpO.nil ?_
        refine WpC.cond rfl (fun hb12 => ?_) (fun hb12 => ?_)
        ·
          replace h := if_t hb12 h
          refine WpC.seq ?_
          refine WpC.region E.obj rfl ?_
          refine wpO.val rfl (oper_assign rfl) rfl ?_
          refine wpO.nil ?_
          have hr := Option.some.inj h
          subst hr
          exact WpC.ret ⟨_, rfl, rfl, end1 (ArgsC.eq .nil)⟩
        ·
          replace h := if_f hb12 h
          refine WpC.skip ?_
          refine WpC.seq ?_
          refine WpC.seq ?_
          refine WpC.region E.obj rfl ?_
          refine wpO.val rfl (oper_fieldAddr rfl fo32_2 nz30 rfl) rfl ?_
          refine wpO.val rfl (oper_load H4 (i := 0) rfl rfl (part_one ag30 rfl)) rfl ?_
          refine wpO.val rfl (oper_lenL rfl es30) rfl ?_
          refine wpO.val rfl (oper_move rfl) rfl ?_
          refine wpO.nil ?_
          refine WpC.block ?_
          refine WpL.start (B := pureSt) (α := Int) (fun k a => comp_Right_l21 n a1 k a = some r) (fun a => [(1, (.ptr b2 0 0)), (32, (.d (.sl ((a1.On).map encOn) false))), (33, (.d (.int .i64 ((a1.On).length : Int)))), (34, (.d (.int .i64 a)))]) (fun a => [.box b2 [(.d (.int .i64 a1.Tpl.Kind)), (.d (.int .i64 a1.Tpl.N)), (.d (.str a1.Tpl.Tag)), (.d (.str a1.Tpl.Text)), (.d (.sl ((a1.Tpl.Attrs).map encAttr) false)), (.d (.sl ((a1.Tpl.Kids).map encTpl) false)), (.d (.sl ((a1.Init).map (D.int .i64)) false)), (.d (.sl ((a1.On).map encOn) false))]]) ?_ ?_ n ⟨0, _, _, S3, .refl _ _, .refl _, (WeakE.cons rfl (.refl _) (WeakE.cons rfl (.refl _) (WeakE.cons rfl (.refl _) (WeakE.cons rfl (.refl _) WeakE.nil)))), H4.sel [0] (by decide) rfl, h⟩
          · intro a h; simp [comp_Right_l21] at h
          ·
            intro k21 x20 S18 H19 h
            replace h : comp_Right_l21 n a1 (k21 + 1) x20 = some r := h
            replace H19 : Has pureSt S18 [.box b2 [(.d (.int .i64 a1.Tpl.Kind)), (.d (.int .i64 a1.Tpl.N)), (.d (.str a1.Tpl.Tag)), (.d (.str a1.Tpl.Text)), (.d (.sl ((a1.Tpl.Attrs).map encAttr) false)), (.d (.sl ((a1.Tpl.Kids).map encTpl) false)), (.d (.sl ((a1.Init).map (D.int .i64)) false)), (.d (.sl ((a1.On).map encOn) false))]] := H19
            unfold comp_Right_l21 at h
            refine WpC.seq ?_
            refine WpC.region E.obj rfl ?_
            refine wpO.val rfl (oper_bin rfl rfl binD_lss) rfl ?_
            refine wpO.nil ?_
            refine WpC.seq ?_
            refine WpC.cond rfl (fun hb22 => ?_) (fun hb22 => ?_)
            ·
              replace h := if_t hb22 h
              refine WpC.skip ?_
              refine WpC.seq ?_
              refine WpC.block ?_
              refine WpC.seq ?_
              refine WpC.region E.obj rfl ?_
              obtain ⟨z23, hzz23, h⟩ := bind_some h
              refine wpO.val rfl (oper_idx rfl rfl (idxAddr (enc := encOn) hzz23 el30 as29 ((On.len _).trans sz29.symm))) rfl ?_
              refine wpO.val rfl (oper_loadE rfl (On.partW ag29 sz29)) rfl ?_
              refine wpO.alloc H19 rfl ob29 zo29 rfl rfl (fun b24 S25 H26 => ?_)
              refine wpO.store H26 (i := 0) rfl rfl rfl rfl (On.cellsA _) rfl sz29 rfl as29 rfl rfl rfl (fun S27 H28 => ?_)
              refine wpO.nil ?_
              refine WpC.seq ?_
              refine WpC.region E.obj rfl ?_
              refine wpO.val rfl (oper_fieldAddr rfl fo29_0 nz9 rfl) rfl ?_
              refine wpO.val rfl (oper_load H28 (i := 0) rfl rfl (part_one ag9 rfl)) rfl ?_
              refine wpO.val rfl (oper_bin rfl rfl binD_sneq) rfl ?_
              refine wpO.val rfl (oper_move rfl) rfl ?_
              refine wpO.groupV 5 46 (.d (.bool ((!(z23.Event == [])) && (decide (((z23.Event).length : Int) ≤ 16))))) ?_ ?_
              ·
                rcases Bool.eq_false_or_eq_true ((!(z23.Event == []))) with hB29 | hB29
                ·
                  refine wpO.bool hB29 ?_
                  refine wpO.val rfl (oper_fieldAddr rfl fo29_0 nz9 rfl) rfl ?_
                  refine wpO.val rfl (oper_load H28 (i := 0) rfl rfl (part_one ag9 rfl)) rfl ?_
                  refine wpO.val rfl (oper_len rfl (lenTy_str st9) rfl) rfl ?_
                  refine wpO.val rfl (oper_bin rfl rfl binD_leq) rfl ?_
                  refine wpO.val rfl (oper_pick (b := true) rfl rfl) rfl ?_
                  exact wpO.nil ⟨_, rfl, (WeakE.put (WeakE.push rfl (WeakE.push rfl (WeakE.push rfl (WeakE.push rfl (WeakE.put (.refl _) (Less.eq (by rw [hB29]))))))) (Less.eq (by rw [hB29]; rw [Bool.true_and])))⟩
                ·
                  refine wpO.bool hB29 ?_
                  refine wpO.no rfl rfl ?_
                  refine wpO.no rfl rfl ?_
                  refine wpO.no rfl rfl ?_
                  refine wpO.no rfl rfl ?_
                  refine wpO.val rfl (oper_pick (b := false) rfl rfl) rfl ?_
                  exact wpO.nil ⟨_, rfl, (WeakE.put (WeakE.push rfl (WeakE.push rfl (WeakE.push rfl (WeakE.push rfl (WeakE.put (.refl _) (Less.eq (by rw [hB29]))))))) (Less.eq (by rw [hB29]; rw [Bool.false_and])))⟩
              ·
                refine wpO.val rfl (oper_move rfl) rfl ?_
                obtain ⟨z31, hzz31, h⟩ := bind_some h
                refine wpO.groupV 5 52 (.d (.bool z31)) ?_ ?_
                ·
                  rcases Bool.eq_false_or_eq_true (((!(z23.Event == [])) && (decide (((z23.Event).length : Int) ≤ 16)))) with hB30 | hB30
                  ·
                    refine wpO.bool hB30 ?_
                    replace hzz31 := if_t hB30 hzz31
                    refine wpO.val rfl (oper_fieldAddr rfl fo29_0 nz9 rfl) rfl ?_
                    refine wpO.val rfl (oper_load H28 (i := 0) rfl rfl (part_one ag9 rfl)) rfl ?_
                    obtain ⟨z32, hzz32, hzz31⟩ := bind_some hzz31
                    refine wpO.ret rfl (oper_callF rfl rfl) (E.strings_Trim_ok _ _ _ _ hzz32 _ _ (ArgsC.eq (ArgsC.eq .nil))) rfl ?_
                    refine wpO.val rfl (oper_bin rfl rfl binD_seql) rfl ?_
                    refine wpO.val rfl (oper_pick (b := true) rfl rfl) rfl ?_
                    cases hzz31
                    exact wpO.nil ⟨_, rfl, (WeakE.put (WeakE.push rfl (WeakE.push rfl (WeakE.push rfl (WeakE.push rfl (WeakE.put (.refl _) (Less.eq (by rw [hB30]))))))) (.refl _))⟩
                  ·
                    refine wpO.bool hB30 ?_
                    refine wpO.no rfl rfl ?_
                    refine wpO.no rfl rfl ?_
                    refine wpO.no rfl rfl ?_
                    refine wpO.no rfl rfl ?_
                    refine wpO.val rfl (oper_pick (b := false) rfl rfl) rfl ?_
                    replace hzz31 := if_f hB30 hzz31
                    cases hzz31
                    exact wpO.nil ⟨_, rfl, (WeakE.put (WeakE.push rfl (WeakE.push rfl (WeakE.push rfl (WeakE.push rfl (WeakE.put (.refl _) (Less.eq (by rw [hB30]))))))) (.refl _))⟩
                ·
                  refine wpO.val rfl (oper_assign rfl) rfl ?_
                  refine wpO.nil ?_
                  refine WpC.seq ?_
                  refine WpC.region E.obj rfl ?_
                  refine wpO.val rfl (oper_move rfl) rfl ?_
                  refine wpO.val rfl (oper_not rfl) rfl ?_
                  refine wpO.val rfl (oper_move rfl) rfl ?_
                  refine wpO.groupV 4 59 (.d (.bool ((!z31) || (decide (z23.N < 0))))) ?_ ?_
                  ·
                    rcases Bool.eq_false_or_eq_true ((!z31)) with hB33 | hB33
                    ·
                      refine wpO.bool hB33 ?_
                      refine wpO.no rfl rfl ?_
                      refine wpO.no rfl rfl ?_
                      refine wpO.no rfl rfl ?_
                      refine wpO.val rfl (oper_pick (b := true) rfl rfl) rfl ?_
                      exact wpO.nil ⟨_, rfl, (WeakE.put (WeakE.push rfl (WeakE.push rfl (WeakE.push rfl (WeakE.put (.refl _) (Less.eq (by rw [hB33])))))) (Less.eq (by rw [hB33]; rw [Bool.true_or])))⟩
                    ·
                      refine wpO.bool hB33 ?_
                      refine wpO.val rfl (oper_fieldAddr rfl fo29_1 nz3 rfl) rfl ?_
                      refine wpO.val rfl (oper_load H28 (i := 0) rfl rfl (part_one ag3 rfl)) rfl ?_
                      refine wpO.val rfl (oper_bin rfl rfl binD_lss) rfl ?_
                      refine wpO.val rfl (oper_pick (b := false) rfl rfl) rfl ?_
                      exact wpO.nil ⟨_, rfl, (WeakE.put (WeakE.push rfl (WeakE.push rfl (WeakE.push rfl (WeakE.put (.refl _) (Less.eq (by rw [hB33])))))) (Less.eq (by rw [hB33]; rw [Bool.false_or])))⟩
                  ·
                    refine wpO.val rfl (oper_move rfl) rfl ?_
                    refine wpO.groupV 7 67 (.d (.bool (((!z31) || (decide (z23.N < 0))) || (decide (((a1.Init).length : Int) ≤ z23.N))))) ?_ ?_
                    ·
                      rcases Bool.eq_false_or_eq_true (((!z31) || (decide (z23.N < 0)))) with hB34 | hB34
                      ·
                        refine wpO.bool hB34 ?_
                        refine wpO.no rfl rfl ?_
                        refine wpO.no rfl rfl ?_
                        refine wpO.no rfl rfl ?_
                        refine wpO.no rfl rfl ?_
                        refine wpO.no rfl rfl ?_
                        refine wpO.no rfl rfl ?_
                        refine wpO.val rfl (oper_pick (b := true) rfl rfl) rfl ?_
                        exact wpO.nil ⟨_, rfl, (WeakE.put (WeakE.push rfl (WeakE.push rfl (WeakE.push rfl (WeakE.push rfl (WeakE.push rfl (WeakE.push rfl (WeakE.put (.refl _) (Less.eq (by rw [hB34]))))))))) (Less.eq (by rw [hB34]; rw [Bool.true_or])))⟩
                      ·
                        refine wpO.bool hB34 ?_
                        refine wpO.val rfl (oper_fieldAddr rfl fo29_1 nz3 rfl) rfl ?_
                        refine wpO.val rfl (oper_load H28 (i := 0) rfl rfl (part_one ag3 rfl)) rfl ?_
                        refine wpO.val rfl (oper_fieldAddr rfl fo32_1 nz27 rfl) rfl ?_
                        refine wpO.val rfl (oper_load H28 (i := 1) rfl rfl (part_one ag27 rfl)) rfl ?_
                        refine wpO.val rfl (oper_lenL rfl es27) rfl ?_
                        refine wpO.val rfl (oper_bin rfl rfl binD_geq) rfl ?_
                        refine wpO.val rfl (oper_pick (b := false) rfl rfl) rfl ?_
                        exact wpO.nil ⟨_, rfl, (WeakE.put (WeakE.push rfl (WeakE.push rfl (WeakE.push rfl (WeakE.push rfl (WeakE.push rfl (WeakE.push rfl (WeakE.put (.refl _) (Less.eq (by rw [hB34]))))))))) (Less.eq (by rw [hB34]; rw [Bool.false_or])))⟩
                    ·
                      refine wpO.val rfl (oper_move rfl) rfl ?_
                      obtain ⟨z36, hzz36, h⟩ := bind_some h
                      refine wpO.groupV 5 73 (.d (.bool z36)) ?_ ?_
                      ·
                        rcases Bool.eq_false_or_eq_true ((((!z31) || (decide (z23.N < 0))) || (decide (((a1.Init).length : Int) ≤ z23.N)))) with hB35 | hB35
                        ·
                          refine wpO.bool hB35 ?_
                          refine wpO.no rfl rfl ?_
                          refine wpO.no rfl rfl ?_
                          refine wpO.no rfl rfl ?_
                          refine wpO.no rfl rfl ?_
                          refine wpO.val rfl (oper_pick (b := true) rfl rfl) rfl ?_
                          replace hzz36 := if_t hB35 hzz36
                          cases hzz36
                          exact wpO.nil ⟨_, rfl, (WeakE.put (WeakE.push rfl (WeakE.push rfl (WeakE.push rfl (WeakE.push rfl (WeakE.put (.refl _) (Less.eq (by rw [hB35]))))))) (.refl _))⟩
                        ·
                          refine wpO.bool hB35 ?_
                          replace hzz36 := if_f hB35 hzz36
                          refine wpO.val rfl (oper_fieldAddr rfl fo29_2 nz3 rfl) rfl ?_
                          refine wpO.val rfl (oper_load H28 (i := 0) rfl rfl (part_one ag3 rfl)) rfl ?_
                          obtain ⟨z37, hzz37, hzz36⟩ := bind_some hzz36
                          refine wpO.ret rfl (oper_callF rfl rfl) (comp_may_ok E _ _ _ hzz37 _ _ (ArgsC.eq .nil)) rfl ?_
                          refine wpO.val rfl (oper_not rfl) rfl ?_
                          refine wpO.val rfl (oper_pick (b := false) rfl rfl) rfl ?_
                          cases hzz36
                          exact wpO.nil ⟨_, rfl, (WeakE.put (WeakE.push rfl (WeakE.push rfl (WeakE.push rfl (WeakE.push rfl (WeakE.put (.refl _) (Less.eq (by rw [hB35]))))))) (.refl _))⟩
                      ·
                        refine wpO.nil ?_
                        refine WpC.cond rfl (fun hb38 => ?_) (fun hb38 => ?_)
                        ·
                          replace h := if_t hb38 h
                          refine WpC.seq ?_
                          refine WpC.region E.obj rfl ?_
                          refine wpO.val rfl (oper_assign rfl) rfl ?_
                          refine wpO.nil ?_
                          have hr := Option.some.inj h
                          subst hr
                          exact WpC.ret ⟨_, rfl, rfl, end1 (ArgsC.eq .nil)⟩
                        ·
                          replace h := if_f hb38 h
                          refine WpC.skip ?_
                          refine WpC.region E.obj rfl ?_
                          refine wpO.val rfl (oper_bin rfl rfl binD_add) rfl ?_
                          refine wpO.val rfl (oper_move rfl) rfl ?_
                          refine wpO.nil ?_
                          exact ⟨(IntKind.wrap .i64 (x20 + 1)), _, _, S27, .refl _ _, .refl _, (WeakE.cons rfl (.refl _) (WeakE.cons rfl (.refl _) (WeakE.cons rfl (.refl _) (WeakE.cons rfl (.refl _) WeakE.nil)))), H28.sel [1] (by decide) rfl, h⟩
            ·
              replace h := if_f hb22 h
              refine WpC.exit ?_
              refine WpC.seq ?_
              refine WpC.region E.obj rfl ?_
              refine wpO.val rfl (oper_assign rfl) rfl ?_
              refine wpO.nil ?_
              have hr := Option.some.inj h
              subst hr
              exact WpC.ret ⟨_, rfl, rfl, end1 (ArgsC.eq .nil)⟩
theorem slices_Clone__int_int__ok (n : Nat) (a1 : (List Int)) (r : (List Int)) (h : slices_Clone__int_int_ n a1 = some r) : SpecC R cfg.P 17 [(.sl ((a1).map (D.int .i64)) false)] (.d (.sl ((r).map (D.int .i64)) false)) := by
  unfold slices_Clone__int_int_ at h
  refine SpecC.of_wp E.obj.toObjOk (C := cfg) Tryd.func17 rfl nm17 rfl ?_
  have H0 : Has pureSt pureSt [] := Has.pure
  refine WpC.seq ?_
  refine WpC.region E.obj rfl ?_
  refine wpO.val rfl (oper_assign rfl) rfl ?_
  refine wpO.nil ?_
  refine WpC.seq ?_
  refine WpC.seq ?_
  refine WpC.region E.obj rfl ?_
  refine wpO.val rfl (oper_move rfl) rfl ?_
  refine wpO.eqNil rfl rfl rfl us27s rfl (fun bb hbb => ?_)
  refine wpO.nil ?_
  refine WpC.cond rfl (fun hb => ?_) (fun hb => ?_)
  · have e := map_nil (hbb hb)
    subst e
    have hr := (app_some h).2
    subst hr
    refine WpC.seq ?_
    refine WpC.region E.obj rfl ?_
    refine wpO.val rfl (oper_assign rfl) rfl ?_
    refine wpO.nil ?_
    exact WpC.ret ⟨_, rfl, rfl, end1 (ArgsC.consW rfl (.nils false) .nil)⟩
  · refine WpC.skip ?_
    refine WpC.seq ?_
    refine WpC.region E.obj rfl ?_
    refine wpO.val rfl (oper_buildSlice0 rw27 el27 ag3) rfl ?_
    refine wpO.val rfl (oper_move rfl) rfl ?_
    have H1 := H0.tightG (([] : (List Int)).map (D.int .i64))
    refine wpO.append (xs := ([] : (List Int)).map (D.int .i64)) (ys := (a1).map (D.int .i64)) (zs := (r).map (D.int .i64)) H1 rfl rfl rfl (i := 0) rfl rfl rw27 os27 el27 (app_bound (enc := (D.int .i64)) h) nb3 rfl (sizes_map (enc := (D.int .i64)) (fun _ => sz3.symm) _) (sizes_map (enc := (D.int .i64)) (fun _ => sz3.symm) _) zk3 rfl (app_eq h) (fun v2 S2 H2 => ?_)
    refine wpO.val rfl (oper_assign rfl) rfl ?_
    refine wpO.nil ?_
    exact WpC.ret ⟨_, rfl, rfl, end1 (ArgsC.grow H2 (i := 0) rfl .nil)⟩
theorem slices_Clone__int_int__okN (n : Nat) (a1 : (List Int)) (r : (List Int)) (h : slices_Clone__int_int_ n a1 = some r) : SpecN R cfg.P 17 [(.sl ((a1).map (D.int .i64)) false)] (fun v l => l = [.row 1 v ((r).map (D.int .i64))]) := by
  unfold slices_Clone__int_int_ at h
  refine SpecN.of_wp (C := cfgR1) Tryd.func17 rfl nm17 rfl (fun S0 wf0 => ?_)
  have H0 : Has S0 S0 [] := Has.start wf0
  refine WpC.seq ?_
  refine WpC.region (objR1 E) rfl ?_
  refine wpO.val rfl (oper_assign rfl) rfl ?_
  refine wpO.nil ?_
  refine WpC.seq ?_
  refine WpC.seq ?_
  refine WpC.region (objR1 E) rfl ?_
  refine wpO.val rfl (oper_move rfl) rfl ?_
  refine wpO.eqNil rfl rfl rfl us27s rfl (fun bb hbb => ?_)
  refine wpO.nil ?_
  refine WpC.cond rfl (fun hb => ?_) (fun hb => ?_)
  · have e := map_nil (hbb hb)
    subst e
    have hr := (app_some h).2
    subst hr
    refine WpC.seq ?_
    refine WpC.region (objR1 E) rfl ?_
    refine wpO.val rfl (oper_assign rfl) rfl ?_
    refine wpO.nil ?_
    exact WpC.ret ⟨_, rfl, rfl, _, _, .refl _, rfl, H0.nilR 1⟩
  · refine WpC.skip ?_
    refine WpC.seq ?_
    refine WpC.region (objR1 E) rfl ?_
    refine wpO.val rfl (oper_buildSlice0R bs27xR1 el27 ag3) rfl ?_
    refine wpO.val rfl (oper_move rfl) rfl ?_
    have H1 := H0.tightR 1
    refine wpO.rowAppend (xs := ([] : (List Int)).map (D.int .i64)) (ys := (a1).map (D.int .i64)) (zs := (r).map (D.int .i64)) H1 rfl rfl rfl (i := 0) rfl sz3 rfl rw27R1 os27R1 el27 (app_bound (enc := (D.int .i64)) h) nb3 rfl (sizes_map (enc := (D.int .i64)) (fun _ => sz3.symm) _) (flat_map (fun _ => rfl) _) rfl zk3R1 rfl (app_eq h) (fun v2 S2 H2 => ?_)
    refine wpO.val rfl (oper_assign rfl) rfl ?_
    refine wpO.nil ?_
    exact WpC.ret ⟨_, rfl, rfl, _, _, .refl _, rfl, H2⟩
theorem slices_Clone__api_Attr_api_Attr__ok (n : Nat) (a1 : (List Attr)) (r : (List Attr)) (h : slices_Clone__api_Attr_api_Attr_ n a1 = some r) : SpecC R cfg.P 44 [(.sl ((a1).map encAttr) false)] (.d (.sl ((r).map encAttr) false)) := by
  unfold slices_Clone__api_Attr_api_Attr_ at h
  refine SpecC.of_wp E.obj.toObjOk (C := cfg) Tryd.func44 rfl nm44 rfl ?_
  have H0 : Has pureSt pureSt [] := Has.pure
  refine WpC.seq ?_
  refine WpC.region E.obj rfl ?_
  refine wpO.val rfl (oper_assign rfl) rfl ?_
  refine wpO.nil ?_
  refine WpC.seq ?_
  refine WpC.seq ?_
  refine WpC.region E.obj rfl ?_
  refine wpO.val rfl (oper_move rfl) rfl ?_
  refine wpO.eqNil rfl rfl rfl us23s rfl (fun bb hbb => ?_)
  refine wpO.nil ?_
  refine WpC.cond rfl (fun hb => ?_) (fun hb => ?_)
  · have e := map_nil (hbb hb)
    subst e
    have hr := (app_some h).2
    subst hr
    refine WpC.seq ?_
    refine WpC.region E.obj rfl ?_
    refine wpO.val rfl (oper_assign rfl) rfl ?_
    refine wpO.nil ?_
    exact WpC.ret ⟨_, rfl, rfl, end1 (ArgsC.consW rfl (.nils false) .nil)⟩
  · refine WpC.skip ?_
    refine WpC.seq ?_
    refine WpC.region E.obj rfl ?_
    refine wpO.val rfl (oper_buildSlice0 rw23 el23 ag68) rfl ?_
    refine wpO.val rfl (oper_move rfl) rfl ?_
    have H1 := H0.tightG (([] : (List Attr)).map encAttr)
    refine wpO.append (xs := ([] : (List Attr)).map encAttr) (ys := (a1).map encAttr) (zs := (r).map encAttr) H1 rfl rfl rfl (i := 0) rfl rfl rw23 os23 el23 (app_bound (enc := encAttr) h) nb68 rfl (sizes_map (enc := encAttr) (fun z => (Attr.len z).trans sz68.symm) _) (sizes_map (enc := encAttr) (fun z => (Attr.len z).trans sz68.symm) _) zk68 rfl (app_eq h) (fun v2 S2 H2 => ?_)
    refine wpO.val rfl (oper_assign rfl) rfl ?_
    refine wpO.nil ?_
    exact WpC.ret ⟨_, rfl, rfl, end1 (ArgsC.grow H2 (i := 0) rfl .nil)⟩
theorem slices_Clone__api_Tpl_api_Tpl__okN (n : Nat) (a1 : (List Tpl)) (r : (List Tpl)) (h : slices_Clone__api_Tpl_api_Tpl_ n a1 = some r) : SpecN R cfg.P 45 [(.sl ((a1).map encTpl) false)] (fun v l => l = [.row 6 v ((r).map encTpl)]) := by
  unfold slices_Clone__api_Tpl_api_Tpl_ at h
  refine SpecN.of_wp (C := cfgR2) Tryd.func45 rfl nm45 rfl (fun S0 wf0 => ?_)
  have H0 : Has S0 S0 [] := Has.start wf0
  refine WpC.seq ?_
  refine WpC.region (objR2 E) rfl ?_
  refine wpO.val rfl (oper_assign rfl) rfl ?_
  refine wpO.nil ?_
  refine WpC.seq ?_
  refine WpC.seq ?_
  refine WpC.region (objR2 E) rfl ?_
  refine wpO.val rfl (oper_move rfl) rfl ?_
  refine wpO.eqNil rfl rfl rfl us24s rfl (fun bb hbb => ?_)
  refine wpO.nil ?_
  refine WpC.cond rfl (fun hb => ?_) (fun hb => ?_)
  · have e := map_nil (hbb hb)
    subst e
    have hr := (app_some h).2
    subst hr
    refine WpC.seq ?_
    refine WpC.region (objR2 E) rfl ?_
    refine wpO.val rfl (oper_assign rfl) rfl ?_
    refine wpO.nil ?_
    exact WpC.ret ⟨_, rfl, rfl, _, _, .refl _, rfl, H0.nilR 6⟩
  · refine WpC.skip ?_
    refine WpC.seq ?_
    refine WpC.region (objR2 E) rfl ?_
    refine wpO.val rfl (oper_buildSlice0R bs24xR2 el24 ag26) rfl ?_
    refine wpO.val rfl (oper_move rfl) rfl ?_
    have H1 := H0.tightR 6
    refine wpO.rowAppend (xs := ([] : (List Tpl)).map encTpl) (ys := (a1).map encTpl) (zs := (r).map encTpl) H1 rfl rfl rfl (i := 0) rfl sz26 rfl rw24R2 os24R2 el24 (app_bound (enc := encTpl) h) nb26 rfl (sizes_map (enc := encTpl) (fun z => (Tpl.len z).trans sz26.symm) _) (flat_map (fun x => Tpl.flat x) _) rfl zk26R2 rfl (app_eq h) (fun v2 S2 H2 => ?_)
    refine wpO.val rfl (oper_assign rfl) rfl ?_
    refine wpO.nil ?_
    exact WpC.ret ⟨_, rfl, rfl, _, _, .refl _, rfl, H2⟩
set_option maxRecDepth 20000 in
set_option maxHeartbeats 4000000 in
theorem comp_copied_ok : ∀ (n : Nat) (a1 : Tpl) (r : Tpl), comp_copied n a1 = some r → SpecC R cfg.P 26 [(encTpl a1)] (.d (encTpl r))
  | 0, a1, r, h => by simp [comp_copied] at h
  | n + 1, a1, r, h => by
    have ih := comp_copied_ok n
    unfold comp_copied at h
    refine SpecC.of_wp (objR2 E).toObjOk (C := cfgR2) Tryd.func26 rfl nm26 rfl ?_
    have H0 : Has pureSt pureSt [] := Has.pure
    refine WpC.seq ?_
    refine WpC.region (objR2 E) rfl ?_
    refine wpO.box H0 rfl rfl rfl (Tpl.cellsA _) rfl (fun b2 S3 H4 => ?_)
    refine wpO.alloc H4 rfl ob26R2 zo26 rfl rfl (fun b5 S6 H7 => ?_)
    refine wpO.nil ?_
    refine WpC.seq ?_
    refine WpC.region (objR2 E) rfl ?_
    refine wpO.val rfl (oper_fieldAddr rfl fo26_4 nz23 rfl) rfl ?_
    refine wpO.val rfl (oper_load H7 (i := 1) rfl rfl (part_one ag23 rfl)) rfl ?_
    obtain ⟨z8, hzz8, h⟩ := bind_some h
    refine wpO.ret rfl (oper_callF rfl rfl) (slices_Clone__api_Attr_api_Attr__ok E _ _ _ hzz8 _ _ (ArgsC.eq .nil)) rfl ?_
    refine wpO.val rfl (oper_fieldAddr rfl fo26_4 nz23 rfl) rfl ?_
    refine wpO.store H7 (i := 1) rfl rfl rfl rfl rfl rfl sz23 rfl as23 rfl rfl rfl (fun S9 H10 => ?_)
    refine wpO.nil ?_
    refine WpC.seq ?_
    refine WpC.region (objR2 E) rfl ?_
    refine wpO.val rfl (oper_fieldAddr rfl fo26_5 nz24 rfl) rfl ?_
    refine wpO.val rfl (oper_load H10 (i := 1) rfl rfl (part_one ag24 rfl)) rfl ?_
    obtain ⟨z11, hzz11, h⟩ := bind_some h
    refine wpO.retN H10 rfl (oper_callF rfl rfl) (slices_Clone__api_Tpl_api_Tpl__okN E n _ _ hzz11) (ArgsC.eq .nil) rfl ?_
    rintro v12 S13 _ rfl H14
    refine wpO.val rfl (oper_fieldAddr rfl fo26_5 nz24 rfl) rfl ?_
    refine wpO.store H14 (i := 2) rfl rfl rfl rfl (row_plain (H14.at (i := 0) rfl)).2 rfl sz24 (row_plain (H14.at (i := 0) rfl)).1 as24 rfl rfl rfl (fun S17 H18 => ?_)
    refine wpO.nil ?_
    refine WpC.seq ?_
    refine WpC.seq ?_
    refine WpC.region (objR2 E) rfl ?_
    refine wpO.val rfl (oper_fieldAddr rfl fo26_5 nz24 rfl) rfl ?_
    refine wpO.val rfl (oper_load H18 (i := 2) rfl rfl (part_one ag24 rfl)) rfl ?_
    refine wpO.val rfl (oper_lenR H18 (i := 0) rfl rfl es24) rfl ?_
    refine wpO.val rfl (oper_move rfl) rfl ?_
    refine wpO.nil ?_
    refine WpC.block ?_
    refine WpL.start (B := pureSt) (α := (List Tpl) × Int) (fun k a => comp_copied_l29 (comp_copied n) a1 z8 z11 k a.1 a.2 = some r) (fun a => [(1, (.ptr b2 0 0)), (2, (.ptr b5 0 0)), (14, v12), (15, (.d (.int .i64 ((z11).length : Int)))), (16, (.d (.int .i64 a.2)))]) (fun a => [.row 6 v12 ((a.1).map encTpl), .box b5 [(.d (.int .i64 0)), (.d (.int .i64 0)), (.d (.str [])), (.d (.str [])), (.d .nils), (.d .nils)], .box b2 [(.d (.int .i64 a1.Kind)), (.d (.int .i64 a1.N)), (.d (.str a1.Tag)), (.d (.str a1.Text)), (.d (.sl ((z8).map encAttr) false)), v12]]) ?_ ?_ n ⟨⟨z11, 0⟩, _, _, S17, .refl _ _, .refl _, (WeakE.cons rfl (.refl _) (WeakE.cons rfl (.refl _) (WeakE.cons rfl (.refl _) (WeakE.cons rfl (.refl _) (WeakE.cons rfl (.refl _) WeakE.nil))))), H18.sel [0, 1, 2] (by decide) rfl, h⟩
    · intro a h; simp [comp_copied_l29] at h
    ·
      intro k29 a S25 H26 h
      obtain ⟨x27, x28⟩ := a
      replace h : comp_copied_l29 (comp_copied n) a1 z8 z11 (k29 + 1) x27 x28 = some r := h
      replace H26 : Has pureSt S25 [.row 6 v12 ((x27).map encTpl), .box b5 [(.d (.int .i64 0)), (.d (.int .i64 0)), (.d (.str [])), (.d (.str [])), (.d .nils), (.d .nils)], .box b2 [(.d (.int .i64 a1.Kind)), (.d (.int .i64 a1.N)), (.d (.str a1.Tag)), (.d (.str a1.Text)), (.d (.sl ((z8).map encAttr) false)), v12]] := H26
      unfold comp_copied_l29 at h
      refine WpC.seq ?_
      refine WpC.region (objR2 E) rfl ?_
      refine wpO.val rfl (oper_bin rfl rfl binD_lss) rfl ?_
      refine wpO.nil ?_
      refine WpC.seq ?_
      refine WpC.cond rfl (fun hb30 => ?_) (fun hb30 => ?_)
      ·
        replace h := if_t hb30 h
        refine WpC.skip ?_
        refine WpC.seq ?_
        refine WpC.block ?_
        refine WpC.seq ?_
        refine WpC.region (objR2 E) rfl ?_
        refine wpO.val rfl (oper_move rfl) rfl ?_
        obtain ⟨z31, hzz31, h⟩ := bind_some h
        refine wpO.rowIdxP (enc := encTpl) H26 rfl (i := 0) rfl rfl rfl hzz31 el24 as26 ((Tpl.len _).trans sz26.symm) rfl ?_
        refine wpO.rowLoadP H26 rfl (i := 0) rfl hzz31 rfl (Tpl.partW ag26 sz26) rfl ?_
        refine wpO.alloc H26 rfl ob26R2 zo26 rfl rfl (fun b32 S33 H34 => ?_)
        refine wpO.val rfl (oper_assign rfl) rfl ?_
        refine wpO.store H34 (i := 0) rfl rfl rfl rfl (Tpl.cellsA _) rfl sz26 rfl as26 rfl rfl rfl (fun S35 H36 => ?_)
        refine wpO.nil ?_
        obtain ⟨z37, hzz37, h⟩ := bind_some h
        obtain ⟨z38, hzz38, h⟩ := bind_some h
        refine WpC.drawP (objR2 E) hmix [[(1, none)], [(21, some 0)], [(3, none)], [(4, none)], [(24, some 3)], [(22, some 1), (23, some 2)], [(25, some 4), (26, some 5)]] [(1, none), (2, none), (14, none), (15, none), (16, none)] (by kernel_rfl) [6] (by decide) [some (.ptr b2 0 5), some v12, some (.d (.int .i64 x28)), some (.d (encTpl z31)), some (.d (encTpl z37)), some (rowPtr v12 (Int.toNat x28) 0), none] ?_
        refine ⟨[0, 1, 2, 3, 4, 5], by kernel_rfl, ?_, _, _, rfl, rfl, .step ?_⟩
        ·
          refine .cons rfl rfl rfl (.step ?_) ?_
          ·
            refine wpO.val rfl (oper_fieldAddr rfl fo26_5 nz24 rfl) rfl ?_
            exact wpO.nil ⟨_, _, rfl, fun _ ht => by cases ht; exact ⟨rfl, .refl _⟩⟩
          refine .cons rfl rfl rfl (.step ?_) ?_
          ·
            refine wpO.val rfl (oper_load H36 (i := 3) rfl rfl (part_one ag24 rfl)) rfl ?_
            exact wpO.nil ⟨_, _, rfl, fun _ ht => by cases ht; exact ⟨rfl, .refl _⟩⟩
          refine .cons rfl rfl rfl (.step ?_) ?_
          ·
            refine wpO.val rfl (oper_move rfl) rfl ?_
            exact wpO.nil ⟨_, _, rfl, fun _ ht => by cases ht; exact ⟨rfl, .refl _⟩⟩
          refine .cons rfl rfl rfl (.step ?_) ?_
          ·
            refine wpO.val rfl (oper_load H36 (i := 0) rfl rfl (part_agg ag26 sz26 rfl)) rfl ?_
            refine wpO.less (Less.agg' (d := encTpl z31) (CellsC.eq rfl (CellsC.eq rfl (CellsC.eq rfl (CellsC.eq rfl (CellsC.eq rfl (CellsC.eq rfl .nil)))))) ((Tpl.eq _).trans rfl)) ?_
            exact wpO.nil ⟨_, _, rfl, fun _ ht => by cases ht; exact ⟨rfl, .refl _⟩⟩
          refine .cons rfl rfl rfl (.step ?_) ?_
          ·
            refine wpO.ret rfl (oper_callF rfl rfl) (ih _ _ hzz37 _ _ (ArgsC.eq .nil)) rfl ?_
            exact wpO.nil ⟨_, _, rfl, fun _ ht => by cases ht; exact ⟨rfl, .refl _⟩⟩
          refine .cons rfl rfl rfl (.step ?_) ?_
          ·
            refine wpO.rowIdxP (enc := encTpl) H36 rfl (i := 1) rfl rfl rfl hzz38 el24 as26 ((Tpl.len _).trans sz26.symm) rfl ?_
            exact wpO.nil ⟨_, _, rfl, fun _ ht => by cases ht; exact ⟨rfl, .refl _⟩⟩
          exact .nil
        refine wpO.rowStoreP (enc := encTpl) (z' := z37) (cv := [(.int .i64 z37.Kind), (.int .i64 z37.N), (.str z37.Tag), (.str z37.Text), (.sl ((z37.Attrs).map encAttr) false), (.sl ((z37.Kids).map encTpl) false)]) H36 rfl (i := 1) rfl hzz38 rfl rfl (Tpl.cellsA _) (.refl _) sz26 rfl as26 (by rw [Tpl.len]; rfl) (by rw [Tpl.cells, Tpl.cells]; rfl) (Tpl.flat _) (fun S41 H42 => ?_)
        refine wpO.nil ⟨_, .any, _, rfl, (fun _ ht => by cases ht), [some (.ptr b2 0 5), some v12, some (.d (.int .i64 x28)), some (.d (encTpl z31)), some (.d (encTpl z37)), some (rowPtr v12 (Int.toNat x28) 0), some .any], (.old (.refl _) (.old (.refl _) (.old (.refl _) (.old (.refl _) (.old (.refl _) (.old (.refl _) (.new .nil))))))), (fun _ ht => by cases ht), ?_⟩
        refine ⟨[], by kernel_rfl, ?_, _, rfl, ?_⟩
        ·
          exact .nil
        refine WpC.region (objR2 E) rfl ?_
        refine wpO.val rfl (oper_bin rfl rfl binD_add) rfl ?_
        refine wpO.val rfl (oper_move rfl) rfl ?_
        refine wpO.nil ?_
        exact ⟨⟨(setI x27 x28 z37), (IntKind.wrap .i64 (x28 + 1))⟩, _, _, S41, .refl _ _, .refl _, (WeakE.cons rfl (.refl _) (WeakE.cons rfl (.refl _) (WeakE.cons rfl (.refl _) (WeakE.cons rfl (.refl _) (WeakE.cons rfl (.refl _) WeakE.nil))))), H42.sel [1, 2, 3] (by decide) rfl, h⟩
      ·
        replace h := if_f hb30 h
        refine WpC.exit ?_
        refine WpC.seq ?_
        refine WpC.region (objR2 E) rfl ?_
        refine wpO.val rfl (oper_load H26 (i := 2) rfl rfl (part_agg ag26 sz26 rfl)) rfl ?_
        refine wpO.store H26 (i := 1) rfl rfl rfl rfl (mkAgg_cells _) rfl sz26 (mkAgg_plain _) as26 rfl rfl rfl (fun S43 H44 => ?_)
        refine wpO.nil ?_
        obtain ⟨SF1, HF1, hgF1⟩ := H44.freeze (objR2 E).toObjOk (i := 0) (l' := [.box b5 [(.d (.int .i64 a1.Kind)), (.d (.int .i64 a1.N)), (.d (.str a1.Tag)), (.d (.str a1.Text)), (.d (.sl ((z8).map encAttr) false)), (.d (.sl ((x27).map encTpl) false))], .box b2 [(.d (.int .i64 a1.Kind)), (.d (.int .i64 a1.N)), (.d (.str a1.Tag)), (.d (.str a1.Text)), (.d (.sl ((z8).map encAttr) false)), (.d (.sl ((x27).map encTpl) false))]]) rfl (.box (.cons (.same _) (.cons (.same _) (.cons (.same _) (.cons (.same _) (.cons (.same _) (.cons .it .nil)))))) (.box (.cons (.same _) (.cons (.same _) (.cons (.same _) (.cons (.same _) (.cons (.same _) (.cons .it .nil)))))) .nil))
        refine WpC.ghost (hgF1 _ _ [(1, (.ptr b2 0 0)), (2, (.ptr b5 0 0)), (14, (.d (.sl ((x27).map encTpl) false))), (15, (.d (.int .i64 ((z11).length : Int)))), (16, (.d (.int .i64 x28))), (17, (.d (.bool (decide (x28 < ((z11).length : Int))))))] (.cons rfl (.refl _) (.cons rfl (.refl _) (.it rfl (.cons rfl (.refl _) (.cons rfl (.refl _) (.cons rfl (.refl _) .nil))))))) ?_
        have hr := Option.some.inj h
        subst hr
        exact WpC.ret ⟨_, resultsE_cell HF1 (i := 0) rfl rfl rfl (part_agg ag26 sz26 rfl), rfl, end1 (ArgsC.less_agg (d := encTpl (Tpl.mk a1.Kind a1.N a1.Tag a1.Text z8 x27)) (CellsC.eq rfl (CellsC.eq rfl (CellsC.eq rfl (CellsC.eq rfl (CellsC.eq rfl (CellsC.eq rfl .nil)))))) ((Tpl.eq _).trans rfl))⟩
theorem slices_Clone__api_On_api_On__ok (n : Nat) (a1 : (List On)) (r : (List On)) (h : slices_Clone__api_On_api_On_ n a1 = some r) : SpecC R cfg.P 27 [(.sl ((a1).map encOn) false)] (.d (.sl ((r).map encOn) false)) := by
  unfold slices_Clone__api_On_api_On_ at h
  refine SpecC.of_wp E.obj.toObjOk (C := cfg) Tryd.func27 rfl nm27 rfl ?_
  have H0 : Has pureSt pureSt [] := Has.pure
  refine WpC.seq ?_
  refine WpC.region E.obj rfl ?_
  refine wpO.val rfl (oper_assign rfl) rfl ?_
  refine wpO.nil ?_
  refine WpC.seq ?_
  refine WpC.seq ?_
  refine WpC.region E.obj rfl ?_
  refine wpO.val rfl (oper_move rfl) rfl ?_
  refine wpO.eqNil rfl rfl rfl us30s rfl (fun bb hbb => ?_)
  refine wpO.nil ?_
  refine WpC.cond rfl (fun hb => ?_) (fun hb => ?_)
  · have e := map_nil (hbb hb)
    subst e
    have hr := (app_some h).2
    subst hr
    refine WpC.seq ?_
    refine WpC.region E.obj rfl ?_
    refine wpO.val rfl (oper_assign rfl) rfl ?_
    refine wpO.nil ?_
    exact WpC.ret ⟨_, rfl, rfl, end1 (ArgsC.consW rfl (.nils false) .nil)⟩
  · refine WpC.skip ?_
    refine WpC.seq ?_
    refine WpC.region E.obj rfl ?_
    refine wpO.val rfl (oper_buildSlice0 rw30 el30 ag29) rfl ?_
    refine wpO.val rfl (oper_move rfl) rfl ?_
    have H1 := H0.tightG (([] : (List On)).map encOn)
    refine wpO.append (xs := ([] : (List On)).map encOn) (ys := (a1).map encOn) (zs := (r).map encOn) H1 rfl rfl rfl (i := 0) rfl rfl rw30 os30 el30 (app_bound (enc := encOn) h) nb29 rfl (sizes_map (enc := encOn) (fun z => (On.len z).trans sz29.symm) _) (sizes_map (enc := encOn) (fun z => (On.len z).trans sz29.symm) _) zk29 rfl (app_eq h) (fun v2 S2 H2 => ?_)
    refine wpO.val rfl (oper_assign rfl) rfl ?_
    refine wpO.nil ?_
    exact WpC.ret ⟨_, rfl, rfl, end1 (ArgsC.grow H2 (i := 0) rfl .nil)⟩
set_option maxRecDepth 20000 in
set_option maxHeartbeats 4000000 in
theorem comp_From_ok (n : Nat) (a1 : Comp) (a2 : (List Int)) (r : (Option comp_Instance)) (h : comp_From n a1 a2 = some r) : SpecM R cfg.P 15 [.d (encComp a1), .d (.sl ((a2).map (D.int .i64)) false)] [] (fun v l => match r with | none => v = .d .nilp ∧ l = [] | some x => ∃ b, v = .ptr b 0 0 ∧ l = .box b [.d (.int .i64 x.tpl.Kind), .d (.int .i64 x.tpl.N), .d (.str x.tpl.Tag), .d (.str x.tpl.Text), .d (.sl ((x.tpl.Attrs).map encAttr) false), .d (.sl ((x.tpl.Kids).map encTpl) false), .d (.sl ((x.on_).map encOn) false), .d (.sl ((x.state).map (D.int .i64)) false)] :: []) := by
  unfold comp_From at h
  refine SpecM.of_wp (C := cfg) Tryd.func15 rfl nm15 rfl (fun B0 S0 H0 => ?_)
  replace H0 : Has B0 S0 [] := H0
  refine WpC.seq ?_
  refine WpC.region E.obj rfl ?_
  refine wpO.box H0 rfl rfl rfl (Comp.cellsA _) rfl (fun b3 S4 H5 => ?_)
  refine wpO.val rfl (oper_assign rfl) rfl ?_
  refine wpO.nil ?_
  refine WpC.seq ?_
  refine WpC.seq ?_
  refine WpC.region E.obj rfl ?_
  refine wpO.val rfl (oper_load H5 (i := 0) rfl rfl (part_agg ag32 sz32 rfl)) rfl ?_
  refine wpO.less (Less.agg' (d := encComp a1) (CellsC.eq rfl (CellsC.eq rfl (CellsC.eq rfl (CellsC.eq rfl (CellsC.eq rfl (CellsC.eq rfl (CellsC.eq rfl (CellsC.eq rfl .nil)))))))) ((Comp.eq _).trans rfl)) ?_
  obtain ⟨z6, hzz6, h⟩ := bind_some h
  refine wpO.ret rfl (oper_callF rfl rfl) (comp_Right_ok E _ _ _ hzz6 _ _ (ArgsC.eq .nil)) rfl ?_
  refine wpO.val rfl (oper_not rfl) rfl ?_
  refine wpO.val rfl (oper_move rfl) rfl ?_
  refine wpO.groupV 7 15 (.d (.bool ((!z6) || (((a2).length : Int) != ((a1.Init).length : Int))))) ?_ ?_
  ·
    rcases Bool.eq_false_or_eq_true ((!z6)) with hB7 | hB7
    ·
      refine wpO.bool hB7 ?_
      refine wpO.no rfl rfl ?_
      refine wpO.no rfl rfl ?_
      refine wpO.no rfl rfl ?_
      refine wpO.no rfl rfl ?_
      refine wpO.no rfl rfl ?_
      refine wpO.no rfl rfl ?_
      refine wpO.val rfl (oper_pick (b := true) rfl rfl) rfl ?_
      exact wpO.nil ⟨_, rfl, (WeakE.put (WeakE.push rfl (WeakE.push rfl (WeakE.push rfl (WeakE.push rfl (WeakE.push rfl (WeakE.push rfl (WeakE.put (.refl _) (Less.eq (by rw [hB7]))))))))) (Less.eq (by rw [hB7]; rw [Bool.true_or])))⟩
    ·
      refine wpO.bool hB7 ?_
      refine wpO.val rfl (oper_move rfl) rfl ?_
      refine wpO.val rfl (oper_lenL rfl es27) rfl ?_
      refine wpO.val rfl (oper_fieldAddr rfl fo32_1 nz27 rfl) rfl ?_
      refine wpO.val rfl (oper_load H5 (i := 0) rfl rfl (part_one ag27 rfl)) rfl ?_
      refine wpO.val rfl (oper_lenL rfl es27) rfl ?_
      refine wpO.val rfl (oper_bin rfl rfl binD_neq) rfl ?_
      refine wpO.val rfl (oper_pick (b := false) rfl rfl) rfl ?_
      exact wpO.nil ⟨_, rfl, (WeakE.put (WeakE.push rfl (WeakE.push rfl (WeakE.push rfl (WeakE.push rfl (WeakE.push rfl (WeakE.push rfl (WeakE.put (.refl _) (Less.eq (by rw [hB7]))))))))) (Less.eq (by rw [hB7]; rw [Bool.false_or])))⟩
  ·
    refine wpO.val rfl (oper_move rfl) rfl ?_
    obtain ⟨z9, hzz9, h⟩ := bind_some h
    refine wpO.groupV 4 20 (.d (.bool z9)) ?_ ?_
    ·
      rcases Bool.eq_false_or_eq_true (((!z6) || (((a2).length : Int) != ((a1.Init).length : Int)))) with hB8 | hB8
      ·
        refine wpO.bool hB8 ?_
        refine wpO.no rfl rfl ?_
        refine wpO.no rfl rfl ?_
        refine wpO.no rfl rfl ?_
        refine wpO.val rfl (oper_pick (b := true) rfl rfl) rfl ?_
        replace hzz9 := if_t hB8 hzz9
        cases hzz9
        exact wpO.nil ⟨_, rfl, (WeakE.put (WeakE.push rfl (WeakE.push rfl (WeakE.push rfl (WeakE.put (.refl _) (Less.eq (by rw [hB8])))))) (.refl _))⟩
      ·
        refine wpO.bool hB8 ?_
        replace hzz9 := if_f hB8 hzz9
        refine wpO.val rfl (oper_move rfl) rfl ?_
        obtain ⟨z10, hzz10, hzz9⟩ := bind_some hzz9
        refine wpO.ret rfl (oper_callF rfl rfl) (comp_all_ok E _ _ _ hzz10 _ _ (ArgsC.eq .nil)) rfl ?_
        refine wpO.val rfl (oper_not rfl) rfl ?_
        refine wpO.val rfl (oper_pick (b := false) rfl rfl) rfl ?_
        cases hzz9
        exact wpO.nil ⟨_, rfl, (WeakE.put (WeakE.push rfl (WeakE.push rfl (WeakE.push rfl (WeakE.put (.refl _) (Less.eq (by rw [hB8])))))) (.refl _))⟩
    ·
      refine wpO.nil ?_
      refine WpC.cond rfl (fun hb11 => ?_) (fun hb11 => ?_)
      ·
        replace h := if_t hb11 h
        refine WpC.seq ?_
        refine WpC.region E.obj rfl ?_
        refine wpO.val rfl (oper_assign rfl) rfl ?_
        refine wpO.nil ?_
        have hr := Option.some.inj h
        subst hr
        exact WpC.ret ⟨_, rfl, rfl, _, _, _, .refl _, (.refl _), ⟨rfl, rfl⟩, H5.sel [] (by decide) rfl⟩
      ·
        replace h := if_f hb11 h
        refine WpC.skip ?_
        refine WpC.seq ?_
        obtain ⟨z12, hzz12, h⟩ := bind_some h
        obtain ⟨z13, hzz13, h⟩ := bind_some h
        obtain ⟨z14, hzz14, h⟩ := bind_some h
        refine WpC.drawP E.obj hmix [[(2, none)], [(21, some 0)], [(22, some 1)], [(2, none)], [(24, some 3)], [(25, some 4)], [(1, none)], [(27, some 6)], [(23, some 2), (26, some 5), (28, some 7)], [(29, some 8)], [(30, some 9)]] [(4, some 10)] (by kernel_rfl) [9] (by decide) [some (.ptr b3 0 0), some (.d (encTpl a1.Tpl)), some (.d (encTpl z12)), some (.ptr b3 0 7), some (.d (.sl ((a1.On).map encOn) false)), some (.d (.sl ((z13).map encOn) false)), some (.d (.sl ((a2).map (D.int .i64)) false)), some (.d (.sl ((z14).map (D.int .i64)) false)), some (.d (enccomp_Instance (comp_Instance.mk z12 z13 z14))), none, none] ?_
        refine ⟨[0, 1, 2, 3, 4, 5, 6, 7, 8], by kernel_rfl, ?_, _, _, rfl, rfl, .step ?_⟩
        ·
          refine .cons rfl rfl rfl (.step ?_) ?_
          ·
            refine wpO.val rfl (oper_fieldAddr rfl fo32_0 nz26 rfl) rfl ?_
            exact wpO.nil ⟨_, _, rfl, fun _ ht => by cases ht; exact ⟨rfl, .refl _⟩⟩
          refine .cons rfl rfl rfl (.step ?_) ?_
          ·
            refine wpO.val rfl (oper_load H5 (i := 0) rfl rfl (part_agg ag26 sz26 rfl)) rfl ?_
            refine wpO.less (Less.agg' (d := encTpl a1.Tpl) (CellsC.eq rfl (CellsC.eq rfl (CellsC.eq rfl (CellsC.eq rfl (CellsC.eq rfl (CellsC.eq rfl .nil)))))) ((Tpl.eq _).trans rfl)) ?_
            exact wpO.nil ⟨_, _, rfl, fun _ ht => by cases ht; exact ⟨rfl, .refl _⟩⟩
          refine .cons rfl rfl rfl (.step ?_) ?_
          ·
            refine wpO.ret rfl (oper_callF rfl rfl) (comp_copied_ok E _ _ _ hzz12 _ _ (ArgsC.eq .nil)) rfl ?_
            exact wpO.nil ⟨_, _, rfl, fun _ ht => by cases ht; exact ⟨rfl, .refl _⟩⟩
          refine .cons rfl rfl rfl (.step ?_) ?_
          ·
            refine wpO.val rfl (oper_fieldAddr rfl fo32_2 nz30 rfl) rfl ?_
            exact wpO.nil ⟨_, _, rfl, fun _ ht => by cases ht; exact ⟨rfl, .refl _⟩⟩
          refine .cons rfl rfl rfl (.step ?_) ?_
          ·
            refine wpO.val rfl (oper_load H5 (i := 0) rfl rfl (part_one ag30 rfl)) rfl ?_
            exact wpO.nil ⟨_, _, rfl, fun _ ht => by cases ht; exact ⟨rfl, .refl _⟩⟩
          refine .cons rfl rfl rfl (.step ?_) ?_
          ·
            refine wpO.ret rfl (oper_callF rfl rfl) (slices_Clone__api_On_api_On__ok E _ _ _ hzz13 _ _ (ArgsC.eq .nil)) rfl ?_
            exact wpO.nil ⟨_, _, rfl, fun _ ht => by cases ht; exact ⟨rfl, .refl _⟩⟩
          refine .cons rfl rfl rfl (.step ?_) ?_
          ·
            refine wpO.val rfl (oper_move rfl) rfl ?_
            exact wpO.nil ⟨_, _, rfl, fun _ ht => by cases ht; exact ⟨rfl, .refl _⟩⟩
          refine .cons rfl rfl rfl (.step ?_) ?_
          ·
            refine wpO.ret rfl (oper_callF rfl rfl) (slices_Clone__int_int__ok E _ _ _ hzz14 _ _ (ArgsC.eq .nil)) rfl ?_
            exact wpO.nil ⟨_, _, rfl, fun _ ht => by cases ht; exact ⟨rfl, .refl _⟩⟩
          refine .cons rfl rfl rfl (.step ?_) ?_
          ·
            refine wpO.val rfl (oper_build (cs := [(.d (.int .i64 z12.Kind)), (.d (.int .i64 z12.N)), (.d (.str z12.Tag)), (.d (.str z12.Text)), (.d (.sl ((z12.Attrs).map encAttr) false)), (.d (.sl ((z12.Kids).map encTpl) false)), (.d (.sl ((z13).map encOn) false)), (.d (.sl ((z14).map (D.int .i64)) false))]) zo53 rfl (place_struct53) (fill1 rfl (cellsP_d (Tpl.cellsA _)) rfl rfl (fill1 rfl rfl rfl rfl (fill1 rfl rfl rfl rfl rfl)))) rfl ?_
            refine wpO.less (Less.agg' (d := enccomp_Instance (comp_Instance.mk z12 z13 z14)) (CellsC.eq rfl (CellsC.eq rfl (CellsC.eq rfl (CellsC.eq rfl (CellsC.eq rfl (CellsC.eq rfl (CellsC.eq rfl (CellsC.eq rfl .nil)))))))) ((comp_Instance.eq _).trans rfl)) ?_
            exact wpO.nil ⟨_, _, rfl, fun _ ht => by cases ht; exact ⟨rfl, .refl _⟩⟩
          exact .nil
        refine wpO.box H5 rfl rfl rfl (comp_Instance.cellsA _) rfl (fun b18 S19 H20 => ?_)
        refine wpO.nil ⟨_, _, _, rfl, (fun _ ht => by cases ht; rfl), [some (.ptr b3 0 0), some (.d (encTpl a1.Tpl)), some (.d (encTpl z12)), some (.ptr b3 0 7), some (.d (.sl ((a1.On).map encOn) false)), some (.d (.sl ((z13).map encOn) false)), some (.d (.sl ((a2).map (D.int .i64)) false)), some (.d (.sl ((z14).map (D.int .i64)) false)), some (.d (enccomp_Instance (comp_Instance.mk z12 z13 z14))), some (.ptr b18 0 0), some (.ptr b18 0 0)], (.old (.refl _) (.old (.refl _) (.old (.refl _) (.old (.refl _) (.old (.refl _) (.old (.refl _) (.old (.refl _) (.old (.refl _) (.old (.refl _) (.new (.new .nil))))))))))), (fun _ ht => by cases ht; exact ⟨_, rfl, .refl _⟩), ?_⟩
        refine ⟨[10], by kernel_rfl, ?_, _, rfl, ?_⟩
        ·
          refine .cons rfl rfl rfl (.step ?_) ?_
          ·
            refine wpO.val rfl (oper_assign rfl) rfl ?_
            exact wpO.nil ⟨_, _, rfl, fun _ ht => by cases ht; exact ⟨rfl, .refl _⟩⟩
          exact .nil
        have hr := Option.some.inj h
        subst hr
        exact WpC.ret ⟨_, rfl, rfl, _, _, _, .refl _, (.refl _), ⟨_, rfl, rfl⟩, H20.sel [0] (by decide) rfl⟩
set_option maxRecDepth 20000 in
set_option maxHeartbeats 4000000 in
theorem comp_New_ok (n : Nat) (a1 : Comp) (r : (Option comp_Instance)) (h : comp_New n a1 = some r) : SpecM R cfg.P 6 [.d (encComp a1)] [] (fun v l => match r with | none => v = .d .nilp ∧ l = [] | some x => ∃ b, v = .ptr b 0 0 ∧ l = .box b [.d (.int .i64 x.tpl.Kind), .d (.int .i64 x.tpl.N), .d (.str x.tpl.Tag), .d (.str x.tpl.Text), .d (.sl ((x.tpl.Attrs).map encAttr) false), .d (.sl ((x.tpl.Kids).map encTpl) false), .d (.sl ((x.on_).map encOn) false), .d (.sl ((x.state).map (D.int .i64)) false)] :: []) := by
  unfold comp_New at h
  refine SpecM.of_wp (C := cfg) Tryd.func6 rfl nm6 rfl (fun B0 S0 H0 => ?_)
  replace H0 : Has B0 S0 [] := H0
  refine WpC.seq ?_
  refine WpC.region E.obj rfl ?_
  refine wpO.box H0 rfl rfl rfl (Comp.cellsA _) rfl (fun b2 S3 H4 => ?_)
  refine wpO.val rfl (oper_assign rfl) rfl ?_
  refine wpO.nil ?_
  refine WpC.seq ?_
  refine WpC.region E.obj rfl ?_
  refine wpO.val rfl (oper_load H4 (i := 0) rfl rfl (part_agg ag32 sz32 rfl)) rfl ?_
  refine wpO.less (Less.agg' (d := encComp a1) (CellsC.eq rfl (CellsC.eq rfl (CellsC.eq rfl (CellsC.eq rfl (CellsC.eq rfl (CellsC.eq rfl (CellsC.eq rfl (CellsC.eq rfl .nil)))))))) ((Comp.eq _).trans rfl)) ?_
  refine wpO.val rfl (oper_fieldAddr rfl fo32_1 nz27 rfl) rfl ?_
  refine wpO.val rfl (oper_load H4 (i := 0) rfl rfl (part_one ag27 rfl)) rfl ?_
  obtain ⟨z5, hzz5, h⟩ := bind_some h
  refine wpO.retM (ins := []) (more := [.box b2 [(.d (.int .i64 a1.Tpl.Kind)), (.d (.int .i64 a1.Tpl.N)), (.d (.str a1.Tpl.Tag)), (.d (.str a1.Tpl.Text)), (.d (.sl ((a1.Tpl.Attrs).map encAttr) false)), (.d (.sl ((a1.Tpl.Kids).map encTpl) false)), (.d (.sl ((a1.Init).map (D.int .i64)) false)), (.d (.sl ((a1.On).map encOn) false))]]) (H4.sel [0] (by decide) rfl) rfl (oper_callF rfl rfl) (comp_From_ok E n _ _ _ hzz5 ) (.cons (.refl _) (.cons (.refl _) .nil)) rfl ?_
  rintro v6 S7 l8 hr9 H10
  rcases z5 with _ | x11
  ·
    obtain ⟨rfl, rfl⟩ := hr9
    replace h := optN h
    replace H10 : Has B0 S7 [.box b2 [(.d (.int .i64 a1.Tpl.Kind)), (.d (.int .i64 a1.Tpl.N)), (.d (.str a1.Tpl.Tag)), (.d (.str a1.Tpl.Text)), (.d (.sl ((a1.Tpl.Attrs).map encAttr) false)), (.d (.sl ((a1.Tpl.Kids).map encTpl) false)), (.d (.sl ((a1.Init).map (D.int .i64)) false)), (.d (.sl ((a1.On).map encOn) false))]] := H10
    refine wpO.val rfl (oper_assign rfl) rfl ?_
    refine wpO.nil ?_
    have hr := Option.some.inj h
    subst hr
    exact WpC.ret ⟨_, rfl, rfl, _, _, _, .refl _, (.refl _), ⟨rfl, rfl⟩, H10.sel [] (by decide) rfl⟩
  ·
    obtain ⟨b12, rfl, rfl⟩ := hr9
    replace h := optS h
    replace H10 : Has B0 S7 [.box b12 [(.d (.int .i64 x11.tpl.Kind)), (.d (.int .i64 x11.tpl.N)), (.d (.str x11.tpl.Tag)), (.d (.str x11.tpl.Text)), (.d (.sl ((x11.tpl.Attrs).map encAttr) false)), (.d (.sl ((x11.tpl.Kids).map encTpl) false)), (.d (.sl ((x11.on_).map encOn) false)), (.d (.sl ((x11.state).map (D.int .i64)) false))], .box b2 [(.d (.int .i64 a1.Tpl.Kind)), (.d (.int .i64 a1.Tpl.N)), (.d (.str a1.Tpl.Tag)), (.d (.str a1.Tpl.Text)), (.d (.sl ((a1.Tpl.Attrs).map encAttr) false)), (.d (.sl ((a1.Tpl.Kids).map encTpl) false)), (.d (.sl ((a1.Init).map (D.int .i64)) false)), (.d (.sl ((a1.On).map encOn) false))]] := H10
    refine wpO.val rfl (oper_assign rfl) rfl ?_
    refine wpO.nil ?_
    have hr := Option.some.inj h
    subst hr
    exact WpC.ret ⟨_, rfl, rfl, _, _, _, .refl _, (.refl _), ⟨_, rfl, rfl⟩, H10.sel [0] (by decide) rfl⟩
set_option maxRecDepth 20000 in
set_option maxHeartbeats 4000000 in
theorem comp_Instance_State_ok (n : Nat) (a2 : comp_Instance) (r : (List Int)) (h : comp_Instance_State n a2 = some r) (b1 : Nat) : SpecM R cfg.P 9 [.ptr b1 0 0] [.box b1 [(.d (.int .i64 a2.tpl.Kind)), (.d (.int .i64 a2.tpl.N)), (.d (.str a2.tpl.Tag)), (.d (.str a2.tpl.Text)), (.d (.sl ((a2.tpl.Attrs).map encAttr) false)), (.d (.sl ((a2.tpl.Kids).map encTpl) false)), (.d (.sl ((a2.on_).map encOn) false)), (.d (.sl ((a2.state).map (D.int .i64)) false))]] (fun v l => v = .d (.sl ((r).map (D.int .i64)) false) ∧ l = [.box b1 [.d (.int .i64 a2.tpl.Kind), .d (.int .i64 a2.tpl.N), .d (.str a2.tpl.Tag), .d (.str a2.tpl.Text), .d (.sl ((a2.tpl.Attrs).map encAttr) false), .d (.sl ((a2.tpl.Kids).map encTpl) false), .d (.sl ((a2.on_).map encOn) false), .d (.sl ((a2.state).map (D.int .i64)) false)]]) := by
  unfold comp_Instance_State at h
  refine SpecM.of_wp (C := cfgR1) Tryd.func9 rfl nm9 rfl (fun B0 S0 H0 => ?_)
  replace H0 : Has B0 S0 [.box b1 [(.d (.int .i64 a2.tpl.Kind)), (.d (.int .i64 a2.tpl.N)), (.d (.str a2.tpl.Tag)), (.d (.str a2.tpl.Text)), (.d (.sl ((a2.tpl.Attrs).map encAttr) false)), (.d (.sl ((a2.tpl.Kids).map encTpl) false)), (.d (.sl ((a2.on_).map encOn) false)), (.d (.sl ((a2.state).map (D.int .i64)) false))]] := H0
  refine WpC.seq ?_
  refine WpC.region (objR1 E) rfl ?_
  refine wpO.val rfl (oper_assign rfl) rfl ?_
  refine wpO.nil ?_
  refine WpC.seq ?_
  refine WpC.region (objR1 E) rfl ?_
  refine wpO.val rfl (oper_move rfl) rfl ?_
  refine wpO.val rfl (oper_nilCheck rfl) rfl ?_
  refine wpO.val rfl (oper_fieldAddr rfl fo53_2 nz27 rfl) rfl ?_
  refine wpO.val rfl (oper_load H0 (i := 0) rfl rfl (part_one ag27 rfl)) rfl ?_
  obtain ⟨z3, hzz3, h⟩ := bind_some h
  refine wpO.retN H0 rfl (oper_callF rfl rfl) (slices_Clone__int_int__okN E n _ _ hzz3) (ArgsC.eq .nil) rfl ?_
  rintro v4 S5 _ rfl H6
  refine wpO.val rfl (oper_assign rfl) rfl ?_
  refine wpO.nil ?_
  obtain ⟨SF1, HF1, hgF1⟩ := H6.freeze (objR1 E).toObjOk (i := 0) (l' := [.box b1 [(.d (.int .i64 a2.tpl.Kind)), (.d (.int .i64 a2.tpl.N)), (.d (.str a2.tpl.Tag)), (.d (.str a2.tpl.Text)), (.d (.sl ((a2.tpl.Attrs).map encAttr) false)), (.d (.sl ((a2.tpl.Kids).map encTpl) false)), (.d (.sl ((a2.on_).map encOn) false)), (.d (.sl ((a2.state).map (D.int .i64)) false))]]) rfl (.same .nil)
  refine WpC.ghost (hgF1 _ _ [(0, (.ptr b1 0 0)), (2, (.d (.sl ((z3).map (D.int .i64)) false))), (3, (.ptr b1 0 0)), (4, (.ptr b1 0 0)), (5, (.ptr b1 0 7)), (6, (.d (.sl ((a2.state).map (D.int .i64)) false))), (7, (.d (.sl ((z3).map (D.int .i64)) false)))] (.cons rfl (.refl _) (.it rfl (.cons rfl (.refl _) (.cons rfl (.refl _) (.cons rfl (.refl _) (.cons rfl (.refl _) (.it rfl .nil)))))))) ?_
  have hr := Option.some.inj h
  subst hr
  exact WpC.ret ⟨_, rfl, rfl, _, _, _, .refl _, (.refl _), ⟨rfl, rfl⟩, HF1.sel [0] (by decide) rfl⟩
set_option maxRecDepth 20000 in
set_option maxHeartbeats 4000000 in
theorem comp_Instance_State_okN (n : Nat) (a2 : comp_Instance) (r : (List Int)) (h : comp_Instance_State n a2 = some r) (b1 : Nat) : SpecM R cfg.P 9 [.ptr b1 0 0] [.box b1 [(.d (.int .i64 a2.tpl.Kind)), (.d (.int .i64 a2.tpl.N)), (.d (.str a2.tpl.Tag)), (.d (.str a2.tpl.Text)), (.d (.sl ((a2.tpl.Attrs).map encAttr) false)), (.d (.sl ((a2.tpl.Kids).map encTpl) false)), (.d (.sl ((a2.on_).map encOn) false)), (.d (.sl ((a2.state).map (D.int .i64)) false))]] (fun v l => l = .row 1 v ((r).map (D.int .i64)) :: [.box b1 [.d (.int .i64 a2.tpl.Kind), .d (.int .i64 a2.tpl.N), .d (.str a2.tpl.Tag), .d (.str a2.tpl.Text), .d (.sl ((a2.tpl.Attrs).map encAttr) false), .d (.sl ((a2.tpl.Kids).map encTpl) false), .d (.sl ((a2.on_).map encOn) false), .d (.sl ((a2.state).map (D.int .i64)) false)]]) := by
  unfold comp_Instance_State at h
  refine SpecM.of_wp (C := cfgR1) Tryd.func9 rfl nm9 rfl (fun B0 S0 H0 => ?_)
  replace H0 : Has B0 S0 [.box b1 [(.d (.int .i64 a2.tpl.Kind)), (.d (.int .i64 a2.tpl.N)), (.d (.str a2.tpl.Tag)), (.d (.str a2.tpl.Text)), (.d (.sl ((a2.tpl.Attrs).map encAttr) false)), (.d (.sl ((a2.tpl.Kids).map encTpl) false)), (.d (.sl ((a2.on_).map encOn) false)), (.d (.sl ((a2.state).map (D.int .i64)) false))]] := H0
  refine WpC.seq ?_
  refine WpC.region (objR1 E) rfl ?_
  refine wpO.val rfl (oper_assign rfl) rfl ?_
  refine wpO.nil ?_
  refine WpC.seq ?_
  refine WpC.region (objR1 E) rfl ?_
  refine wpO.val rfl (oper_move rfl) rfl ?_
  refine wpO.val rfl (oper_nilCheck rfl) rfl ?_
  refine wpO.val rfl (oper_fieldAddr rfl fo53_2 nz27 rfl) rfl ?_
  refine wpO.val rfl (oper_load H0 (i := 0) rfl rfl (part_one ag27 rfl)) rfl ?_
  obtain ⟨z3, hzz3, h⟩ := bind_some h
  refine wpO.retN H0 rfl (oper_callF rfl rfl) (slices_Clone__int_int__okN E n _ _ hzz3) (ArgsC.eq .nil) rfl ?_
  rintro v4 S5 _ rfl H6
  refine wpO.val rfl (oper_assign rfl) rfl ?_
  refine wpO.nil ?_
  have hr := Option.some.inj h
  subst hr
  exact WpC.ret ⟨_, rfl, rfl, _, _, _, .refl _, (.refl _), rfl, H6.sel [0, 1] (by decide) rfl⟩
set_option maxRecDepth 20000 in
set_option maxHeartbeats 4000000 in
theorem slices_IndexFunc__api_On_api_On__ok (n : Nat) (S0 : St) (a1 : (List On)) (fg3 : Nat) (fc4 : List AV) (p2 : On → Option Bool) (hpp2 : ∀ S', Keeps S0 S' → S'.Wf → ∀ (y0 : On) (r : Bool), p2 y0 = some r → SpecF R cfg.P fg3 ([.d (encOn y0)] ++ fc4) S' (fun o => o = (none, .d (.bool r), S'))) (r : Int) (h : slices_IndexFunc__api_On_api_On_ n a1 p2 = some r) : SpecF R cfg.P 43 [.d (.sl ((a1).map encOn) false), .fn fg3 fc4] S0 (fun o => o = (none, .d (.int .i64 r), S0)) := by
  unfold slices_IndexFunc__api_On_api_On_ at h
  refine SpecS.of_wp (C := cfg) Tryd.func43 rfl nm43 rfl (fun wf0 => ?_)
  have H0 : Has S0 S0 [] := Has.start wf0
  refine WpC.seq ?_
  refine WpC.region E.obj rfl ?_
  refine wpO.val rfl (oper_assign rfl) rfl ?_
  refine wpO.nil ?_
  refine WpC.seq ?_
  refine WpC.seq ?_
  refine WpC.region E.obj rfl ?_
  refine wpO.val rfl (oper_move rfl) rfl ?_
  refine wpO.val rfl (oper_lenL rfl es30) rfl ?_
  refine wpO.val rfl (oper_move rfl) rfl ?_
  refine wpO.nil ?_
  refine WpC.block ?_
  refine WpL.start (B := S0) (α := Int) (fun k a => slices_IndexFunc__api_On_api_On__l13 a1 p2 k a = some r) (fun a => [(0, (.d (.sl ((a1).map encOn) false))), (1, (.fn fg3 fc4)), (7, (.d (.int .i64 ((a1).length : Int)))), (8, (.d (.int .i64 a)))]) (fun a => []) ?_ ?_ n ⟨0, _, _, S0, .refl _ _, .refl _, (WeakE.cons rfl (.refl _) (WeakE.cons rfl (.refl _) (WeakE.cons rfl (.refl _) (WeakE.cons rfl (.refl _) WeakE.nil)))), H0.sel [] (by decide) rfl, h⟩
  · intro a h; simp [slices_IndexFunc__api_On_api_On__l13] at h
  ·
    intro k13 x12 S10 H11 h
    replace h : slices_IndexFunc__api_On_api_On__l13 a1 p2 (k13 + 1) x12 = some r := h
    replace H11 : Has S0 S10 [] := H11
    unfold slices_IndexFunc__api_On_api_On__l13 at h
    refine WpC.seq ?_
    refine WpC.region E.obj rfl ?_
    refine wpO.val rfl (oper_bin rfl rfl binD_lss) rfl ?_
    refine wpO.nil ?_
    refine WpC.seq ?_
    refine WpC.cond rfl (fun hb14 => ?_) (fun hb14 => ?_)
    ·
      replace h := if_t hb14 h
      refine WpC.skip ?_
      refine WpC.seq ?_
      refine WpC.block ?_
      refine WpC.seq ?_
      refine WpC.region E.obj rfl ?_
      refine wpO.val rfl (oper_move rfl) rfl ?_
      refine wpO.val rfl (oper_assign rfl) rfl ?_
      refine wpO.nil ?_
      refine WpC.seq ?_
      refine WpC.region E.obj rfl ?_
      refine wpO.val rfl (oper_move rfl) rfl ?_
      refine wpO.val rfl (oper_move rfl) rfl ?_
      refine wpO.val rfl (oper_move rfl) rfl ?_
      obtain ⟨z15, hzz15, h⟩ := bind_some h
      refine wpO.val rfl (oper_idx rfl rfl (idxAddr (enc := encOn) hzz15 el30 as29 ((On.len _).trans sz29.symm))) rfl ?_
      refine wpO.val rfl (oper_loadE rfl (On.partW ag29 sz29)) rfl ?_
      obtain ⟨z16, hzz16, h⟩ := bind_some h
      refine wpO.ret rfl (oper_callV rfl rfl) (hpp2 _ H11.keeps H11.wf _ _ hzz16) rfl ?_
      refine wpO.nil ?_
      refine WpC.cond rfl (fun hb17 => ?_) (fun hb17 => ?_)
      ·
        replace h := if_t hb17 h
        refine WpC.seq ?_
        refine WpC.region E.obj rfl ?_
        refine wpO.val rfl (oper_move rfl) rfl ?_
        refine wpO.val rfl (oper_assign rfl) rfl ?_
        refine wpO.nil ?_
        have hr := Option.some.inj h
        subst hr
        exact WpC.ret ⟨_, rfl, rfl, H11.keeps, end1 (ArgsC.eq .nil)⟩
      ·
        replace h := if_f hb17 h
        refine WpC.skip ?_
        refine WpC.region E.obj rfl ?_
        refine wpO.val rfl (oper_bin rfl rfl binD_add) rfl ?_
        refine wpO.val rfl (oper_move rfl) rfl ?_
        refine wpO.nil ?_
        exact ⟨(IntKind.wrap .i64 (x12 + 1)), _, _, S10, .refl _ _, .refl _, (WeakE.cons rfl (.refl _) (WeakE.cons rfl (.refl _) (WeakE.cons rfl (.refl _) (WeakE.cons rfl (.refl _) WeakE.nil)))), H11.sel [] (by decide) rfl, h⟩
    ·
      replace h := if_f hb14 h
      refine WpC.exit ?_
      refine WpC.seq ?_
      refine WpC.region E.obj rfl ?_
      refine wpO.val rfl (oper_assign rfl) rfl ?_
      refine wpO.nil ?_
      have hr := Option.some.inj h
      subst hr
      exact WpC.ret ⟨_, rfl, rfl, H11.keeps, end1 (ArgsC.eq .nil)⟩
set_option maxRecDepth 20000 in
set_option maxHeartbeats 4000000 in
theorem slices_ContainsFunc__api_On_api_On__ok (n : Nat) (S0 : St) (a1 : (List On)) (fg3 : Nat) (fc4 : List AV) (p2 : On → Option Bool) (hpp2 : ∀ S', Keeps S0 S' → S'.Wf → ∀ (y0 : On) (r : Bool), p2 y0 = some r → SpecF R cfg.P fg3 ([.d (encOn y0)] ++ fc4) S' (fun o => o = (none, .d (.bool r), S'))) (r : Bool) (h : slices_ContainsFunc__api_On_api_On_ n a1 p2 = some r) : SpecF R cfg.P 24 [.d (.sl ((a1).map encOn) false), .fn fg3 fc4] S0 (fun o => o = (none, .d (.bool r), S0)) := by
  unfold slices_ContainsFunc__api_On_api_On_ at h
  refine SpecS.of_wp (C := cfg) Tryd.func24 rfl nm24 rfl (fun wf0 => ?_)
  have H0 : Has S0 S0 [] := Has.start wf0
  refine WpC.seq ?_
  refine WpC.region E.obj rfl ?_
  refine wpO.val rfl (oper_assign rfl) rfl ?_
  refine wpO.nil ?_
  refine WpC.seq ?_
  refine WpC.region E.obj rfl ?_
  refine wpO.val rfl (oper_move rfl) rfl ?_
  refine wpO.val rfl (oper_move rfl) rfl ?_
  obtain ⟨z6, hzz6, h⟩ := bind_some h
  refine wpO.ret rfl (oper_callF rfl rfl) (SpecF.argsL (slices_IndexFunc__api_On_api_On__ok E n S0 _ _ _ p2 (fun S' hk hw y5 r hr => hpp2 S' (H0.keeps.trans hk) hw y5 r hr) _ hzz6) (.cons (.refl _) (.cons (.refl _) .nil))) rfl ?_
  refine wpO.val rfl (oper_bin rfl rfl binD_geq) rfl ?_
  refine wpO.val rfl (oper_assign rfl) rfl ?_
  refine wpO.nil ?_
  have hr := Option.some.inj h
  subst hr
  exact WpC.ret ⟨_, rfl, rfl, H0.keeps, end1 (ArgsC.eq .nil)⟩
set_option maxRecDepth 20000 in
set_option maxHeartbeats 4000000 in
theorem comp_Instance_Hears_1_ok (n : Nat) (a1 : On) (a2 : Str) (S0 : St) (b3 : Nat) (hb4 : S0.H.get b3 = some (.cells 0 [(.d (.str a2))])) (r : Bool) (h : comp_Instance_Hears_1 n a1 a2 = some r) : SpecF R cfg.P 25 [.d (encOn a1), .ptr b3 0 0] S0 (fun o => o = (none, .d (.bool r), S0)) := by
  unfold comp_Instance_Hears_1 at h
  refine SpecS.of_wp (C := cfg) Tryd.func25 rfl nm25 rfl (fun wf0 => ?_)
  have H0 : Has S0 S0 [] := Has.start wf0
  refine WpC.seq ?_
  refine WpC.region E.obj rfl ?_
  refine wpO.box H0 rfl rfl rfl (On.cellsA _) rfl (fun b5 S6 H7 => ?_)
  refine wpO.val rfl (oper_assign rfl) rfl ?_
  refine wpO.nil ?_
  refine WpC.seq ?_
  refine WpC.region E.obj rfl ?_
  refine wpO.val rfl (oper_fieldAddr rfl fo29_0 nz9 rfl) rfl ?_
  refine wpO.val rfl (oper_load H7 (i := 0) rfl rfl (part_one ag9 rfl)) rfl ?_
  refine wpO.val rfl (oper_loadB H7 hb4 rfl (part_one ag9 rfl)) rfl ?_
  refine wpO.val rfl (oper_bin rfl rfl binD_seql) rfl ?_
  refine wpO.val rfl (oper_assign rfl) rfl ?_
  refine wpO.nil ?_
  have hr := Option.some.inj h
  subst hr
  exact WpC.ret ⟨_, rfl, rfl, H7.keeps, end1 (ArgsC.eq .nil)⟩
set_option maxRecDepth 20000 in
set_option maxHeartbeats 4000000 in
theorem comp_Instance_Hears_ok (n : Nat) (a2 : comp_Instance) (a3 : Str) (r : Bool) (h : comp_Instance_Hears n a2 a3 = some r) (b1 : Nat) : SpecM R cfg.P 13 [.ptr b1 0 0, .d (.str a3)] [.box b1 [(.d (.int .i64 a2.tpl.Kind)), (.d (.int .i64 a2.tpl.N)), (.d (.str a2.tpl.Tag)), (.d (.str a2.tpl.Text)), (.d (.sl ((a2.tpl.Attrs).map encAttr) false)), (.d (.sl ((a2.tpl.Kids).map encTpl) false)), (.d (.sl ((a2.on_).map encOn) false)), (.d (.sl ((a2.state).map (D.int .i64)) false))]] (fun v l => v = .d (.bool r) ∧ l = [.box b1 [.d (.int .i64 a2.tpl.Kind), .d (.int .i64 a2.tpl.N), .d (.str a2.tpl.Tag), .d (.str a2.tpl.Text), .d (.sl ((a2.tpl.Attrs).map encAttr) false), .d (.sl ((a2.tpl.Kids).map encTpl) false), .d (.sl ((a2.on_).map encOn) false), .d (.sl ((a2.state).map (D.int .i64)) false)]]) := by
  unfold comp_Instance_Hears at h
  refine SpecM.of_wp (C := cfg) Tryd.func13 rfl nm13 rfl (fun B0 S0 H0 => ?_)
  replace H0 : Has B0 S0 [.box b1 [(.d (.int .i64 a2.tpl.Kind)), (.d (.int .i64 a2.tpl.N)), (.d (.str a2.tpl.Tag)), (.d (.str a2.tpl.Text)), (.d (.sl ((a2.tpl.Attrs).map encAttr) false)), (.d (.sl ((a2.tpl.Kids).map encTpl) false)), (.d (.sl ((a2.on_).map encOn) false)), (.d (.sl ((a2.state).map (D.int .i64)) false))]] := H0
  refine WpC.seq ?_
  refine WpC.region E.obj rfl ?_
  refine wpO.box H0 rfl rfl rfl rfl rfl (fun b4 S5 H6 => ?_)
  refine wpO.val rfl (oper_assign rfl) rfl ?_
  refine wpO.nil ?_
  refine WpC.seq ?_
  refine WpC.region E.obj rfl ?_
  refine wpO.val rfl (oper_move rfl) rfl ?_
  refine wpO.val rfl (oper_nilCheck rfl) rfl ?_
  refine wpO.val rfl (oper_fieldAddr rfl fo53_1 nz30 rfl) rfl ?_
  refine wpO.val rfl (oper_load H6 (i := 1) rfl rfl (part_one ag30 rfl)) rfl ?_
  refine wpO.val rfl (oper_makeFunc rfl) rfl ?_
  obtain ⟨z8, hzz8, h⟩ := bind_some h
  refine wpO.ret rfl (oper_callF rfl rfl) (SpecF.argsL (slices_ContainsFunc__api_On_api_On__ok E n S5 _ _ _ (fun y7 => comp_Instance_Hears_1 n y7 a3) (fun S' hk hw y7 r hr => comp_Instance_Hears_1_ok E n y7 a3 S' _ (hk.H _ _ (H6.at (i := 0) rfl)) r hr) _ hzz8) (.cons (.refl _) (.cons (.refl _) .nil))) rfl ?_
  refine wpO.val rfl (oper_assign rfl) rfl ?_
  refine wpO.nil ?_
  have hr := Option.some.inj h
  subst hr
  exact WpC.ret ⟨_, rfl, rfl, _, _, _, .refl _, (.refl _), ⟨rfl, rfl⟩, H6.sel [1] (by decide) rfl⟩
set_option maxRecDepth 20000 in
set_option maxHeartbeats 4000000 in
theorem comp_Instance_Hear_ok (n : Nat) (a2 : comp_Instance) (a3 : Str) (r : (Int × comp_Instance)) (h : comp_Instance_Hear n a2 a3 = some r) (b1 : Nat) : SpecM R cfg.P 7 [.ptr b1 0 0, .d (.str a3)] [.box b1 [(.d (.int .i64 a2.tpl.Kind)), (.d (.int .i64 a2.tpl.N)), (.d (.str a2.tpl.Tag)), (.d (.str a2.tpl.Text)), (.d (.sl ((a2.tpl.Attrs).map encAttr) false)), (.d (.sl ((a2.tpl.Kids).map encTpl) false)), (.d (.sl ((a2.on_).map encOn) false)), (.d (.sl ((a2.state).map (D.int .i64)) false))]] (fun v l => v = .d (.int .i64 r.1) ∧ l = [.box b1 [.d (.int .i64 r.2.tpl.Kind), .d (.int .i64 r.2.tpl.N), .d (.str r.2.tpl.Tag), .d (.str r.2.tpl.Text), .d (.sl ((r.2.tpl.Attrs).map encAttr) false), .d (.sl ((r.2.tpl.Kids).map encTpl) false), .d (.sl ((r.2.on_).map encOn) false), .d (.sl ((r.2.state).map (D.int .i64)) false)]]) := by
  unfold comp_Instance_Hear at h
  refine SpecM.of_wp (C := cfgR1) Tryd.func7 rfl nm7 rfl (fun B0 S0 H0 => ?_)
  replace H0 : Has B0 S0 [.box b1 [(.d (.int .i64 a2.tpl.Kind)), (.d (.int .i64 a2.tpl.N)), (.d (.str a2.tpl.Tag)), (.d (.str a2.tpl.Text)), (.d (.sl ((a2.tpl.Attrs).map encAttr) false)), (.d (.sl ((a2.tpl.Kids).map encTpl) false)), (.d (.sl ((a2.on_).map encOn) false)), (.d (.sl ((a2.state).map (D.int .i64)) false))]] := H0
  refine WpC.seq ?_
  refine WpC.region (objR1 E) rfl ?_
  refine wpO.val rfl (oper_assign rfl) rfl ?_
  refine wpO.nil ?_
  refine WpC.seq ?_
  refine WpC.seq ?_
  refine WpC.region (objR1 E) rfl ?_
  refine wpO.val rfl (oper_move rfl) rfl ?_
  refine wpO.val rfl (oper_move rfl) rfl ?_
  obtain ⟨z4, hzz4, h⟩ := bind_some h
  refine wpO.retM (ins := [.box b1 [(.d (.int .i64 a2.tpl.Kind)), (.d (.int .i64 a2.tpl.N)), (.d (.str a2.tpl.Tag)), (.d (.str a2.tpl.Text)), (.d (.sl ((a2.tpl.Attrs).map encAttr) false)), (.d (.sl ((a2.tpl.Kids).map encTpl) false)), (.d (.sl ((a2.on_).map encOn) false)), (.d (.sl ((a2.state).map (D.int .i64)) false))]]) (more := []) (H0.sel [0] (by decide) rfl) rfl (oper_callF rfl rfl) (comp_Instance_Hears_ok E n _ _ _ hzz4 b1) (.cons (.refl _) (.cons (.refl _) .nil)) rfl ?_
  rintro _ S5 _ ⟨rfl, rfl⟩ H6
  replace H6 : Has B0 S5 [.box b1 [(.d (.int .i64 a2.tpl.Kind)), (.d (.int .i64 a2.tpl.N)), (.d (.str a2.tpl.Tag)), (.d (.str a2.tpl.Text)), (.d (.sl ((a2.tpl.Attrs).map encAttr) false)), (.d (.sl ((a2.tpl.Kids).map encTpl) false)), (.d (.sl ((a2.on_).map encOn) false)), (.d (.sl ((a2.state).map (D.int .i64)) false))]] := H6
  refine wpO.val rfl (oper_not rfl) rfl ?_
  refine wpO.nil ?_
  refine WpC.cond rfl (fun hb7 => ?_) (fun hb7 => ?_)
  ·
    replace h := if_t hb7 h
    refine WpC.seq ?_
    refine WpC.region (objR1 E) rfl ?_
    refine wpO.val rfl (oper_assign rfl) rfl ?_
    refine wpO.nil ?_
    have hr := Option.some.inj h
    subst hr
    exact WpC.ret ⟨_, rfl, rfl, _, _, _, .refl _, (.refl _), ⟨rfl, rfl⟩, H6.sel [0] (by decide) rfl⟩
  ·
    replace h := if_f hb7 h
    refine WpC.skip ?_
    refine WpC.seq ?_
    refine WpC.region (objR1 E) rfl ?_
    refine wpO.val rfl (oper_move rfl) rfl ?_
    obtain ⟨z8, hzz8, h⟩ := bind_some h
    refine wpO.retM (ins := [.box b1 [(.d (.int .i64 a2.tpl.Kind)), (.d (.int .i64 a2.tpl.N)), (.d (.str a2.tpl.Tag)), (.d (.str a2.tpl.Text)), (.d (.sl ((a2.tpl.Attrs).map encAttr) false)), (.d (.sl ((a2.tpl.Kids).map encTpl) false)), (.d (.sl ((a2.on_).map encOn) false)), (.d (.sl ((a2.state).map (D.int .i64)) false))]]) (more := []) (H6.sel [0] (by decide) rfl) rfl (oper_callF rfl rfl) (comp_Instance_State_okN E n _ _ hzz8 b1) (.cons (.refl _) .nil) rfl ?_
    rintro v11 S9 _ rfl H10
    replace H10 : Has B0 S9 [.row 1 v11 ((z8).map (D.int .i64)), .box b1 [(.d (.int .i64 a2.tpl.Kind)), (.d (.int .i64 a2.tpl.N)), (.d (.str a2.tpl.Tag)), (.d (.str a2.tpl.Text)), (.d (.sl ((a2.tpl.Attrs).map encAttr) false)), (.d (.sl ((a2.tpl.Kids).map encTpl) false)), (.d (.sl ((a2.on_).map encOn) false)), (.d (.sl ((a2.state).map (D.int .i64)) false))]] := H10
    refine wpO.val rfl (oper_assign rfl) rfl ?_
    refine wpO.nil ?_
    refine WpC.seq ?_
    refine WpC.seq ?_
    refine WpC.region (objR1 E) rfl ?_
    refine wpO.val rfl (oper_move rfl) rfl ?_
    refine wpO.val rfl (oper_nilCheck rfl) rfl ?_
    refine wpO.val rfl (oper_fieldAddr rfl fo53_1 nz30 rfl) rfl ?_
    refine wpO.val rfl (oper_load H10 (i := 1) rfl rfl (part_one ag30 rfl)) rfl ?_
    refine wpO.val rfl (oper_lenL rfl es30) rfl ?_
    refine wpO.val rfl (oper_move rfl) rfl ?_
    refine wpO.nil ?_
    refine WpC.block ?_
    refine WpL.start (B := B0) (α := (List Int) × Int) (fun k a => comp_Instance_Hear_l22 n a2 a3 k a.1 a.2 = some r) (fun a => [(0, (.ptr b1 0 0)), (1, (.d (.str a3))), (5, v11), (17, (.d (.sl ((a2.on_).map encOn) false))), (18, (.d (.int .i64 ((a2.on_).length : Int)))), (19, (.d (.int .i64 a.2)))]) (fun a => [.row 1 v11 ((a.1).map (D.int .i64)), .box b1 [(.d (.int .i64 a2.tpl.Kind)), (.d (.int .i64 a2.tpl.N)), (.d (.str a2.tpl.Tag)), (.d (.str a2.tpl.Text)), (.d (.sl ((a2.tpl.Attrs).map encAttr) false)), (.d (.sl ((a2.tpl.Kids).map encTpl) false)), (.d (.sl ((a2.on_).map encOn) false)), (.d (.sl ((a2.state).map (D.int .i64)) false))]]) ?_ ?_ n ⟨⟨z8, 0⟩, _, _, S9, .refl _ _, .refl _, (WeakE.cons rfl (.refl _) (WeakE.cons rfl (.refl _) (WeakE.cons rfl (.refl _) (WeakE.cons rfl (.refl _) (WeakE.cons rfl (.refl _) (WeakE.cons rfl (.refl _) WeakE.nil)))))), H10.sel [0, 1] (by decide) rfl, h⟩
    · intro a h; simp [comp_Instance_Hear_l22] at h
    ·
      intro k22 a S18 H19 h
      obtain ⟨x20, x21⟩ := a
      replace h : comp_Instance_Hear_l22 n a2 a3 (k22 + 1) x20 x21 = some r := h
      replace H19 : Has B0 S18 [.row 1 v11 ((x20).map (D.int .i64)), .box b1 [(.d (.int .i64 a2.tpl.Kind)), (.d (.int .i64 a2.tpl.N)), (.d (.str a2.tpl.Tag)), (.d (.str a2.tpl.Text)), (.d (.sl ((a2.tpl.Attrs).map encAttr) false)), (.d (.sl ((a2.tpl.Kids).map encTpl) false)), (.d (.sl ((a2.on_).map encOn) false)), (.d (.sl ((a2.state).map (D.int .i64)) false))]] := H19
      unfold comp_Instance_Hear_l22 at h
      refine WpC.seq ?_
      refine WpC.region (objR1 E) rfl ?_
      refine wpO.val rfl (oper_bin rfl rfl binD_lss) rfl ?_
      refine wpO.nil ?_
      refine WpC.seq ?_
      refine WpC.cond rfl (fun hb23 => ?_) (fun hb23 => ?_)
      ·
        replace h := if_t hb23 h
        refine WpC.skip ?_
        refine WpC.join (B := B0) (α := (List Int)) (fun a => comp_Instance_Hear_j27 x21 (comp_Instance_Hear_l22 n a2 a3 k22) a = some r) (fun a => [(0, (.ptr b1 0 0)), (1, (.d (.str a3))), (5, v11), (17, (.d (.sl ((a2.on_).map encOn) false))), (18, (.d (.int .i64 ((a2.on_).length : Int)))), (19, (.d (.int .i64 x21)))]) (fun a => [.row 1 v11 ((a).map (D.int .i64)), .box b1 [(.d (.int .i64 a2.tpl.Kind)), (.d (.int .i64 a2.tpl.N)), (.d (.str a2.tpl.Tag)), (.d (.str a2.tpl.Text)), (.d (.sl ((a2.tpl.Attrs).map encAttr) false)), (.d (.sl ((a2.tpl.Kids).map encTpl) false)), (.d (.sl ((a2.on_).map encOn) false)), (.d (.sl ((a2.state).map (D.int .i64)) false))]]) ?_ ?_
        ·
          intro x26 S24 H25 h
          replace h : comp_Instance_Hear_j27 x21 (comp_Instance_Hear_l22 n a2 a3 k22) x26 = some r := h
          replace H25 : Has B0 S24 [.row 1 v11 ((x26).map (D.int .i64)), .box b1 [(.d (.int .i64 a2.tpl.Kind)), (.d (.int .i64 a2.tpl.N)), (.d (.str a2.tpl.Tag)), (.d (.str a2.tpl.Text)), (.d (.sl ((a2.tpl.Attrs).map encAttr) false)), (.d (.sl ((a2.tpl.Kids).map encTpl) false)), (.d (.sl ((a2.on_).map encOn) false)), (.d (.sl ((a2.state).map (D.int .i64)) false))]] := H25
          unfold comp_Instance_Hear_j27 at h
          refine WpC.region (objR1 E) rfl ?_
          refine wpO.val rfl (oper_bin rfl rfl binD_add) rfl ?_
          refine wpO.val rfl (oper_move rfl) rfl ?_
          refine wpO.nil ?_
          exact ⟨⟨x26, (IntKind.wrap .i64 (x21 + 1))⟩, _, _, S24, .refl _ _, .refl _, (WeakE.cons rfl (.refl _) (WeakE.cons rfl (.refl _) (WeakE.cons rfl (.refl _) (WeakE.cons rfl (.refl _) (WeakE.cons rfl (.refl _) (WeakE.cons rfl (.refl _) WeakE.nil)))))), H25.sel [0, 1] (by decide) rfl, h⟩
        ·
          refine WpC.block ?_
          refine WpC.seq ?_
          refine WpC.region (objR1 E) rfl ?_
          obtain ⟨z28, hzz28, h⟩ := bind_some h
          refine wpO.val rfl (oper_idx rfl rfl (idxAddr (enc := encOn) hzz28 el30 as29 ((On.len _).trans sz29.symm))) rfl ?_
          refine wpO.val rfl (oper_loadE rfl (On.partW ag29 sz29)) rfl ?_
          refine wpO.alloc H19 rfl ob29R1 zo29 rfl rfl (fun b29 S30 H31 => ?_)
          refine wpO.store H31 (i := 0) rfl rfl rfl rfl (On.cellsA _) rfl sz29 rfl as29 rfl rfl rfl (fun S32 H33 => ?_)
          refine wpO.nil ?_
          refine WpC.seq ?_
          refine WpC.seq ?_
          refine WpC.region (objR1 E) rfl ?_
          refine wpO.val rfl (oper_fieldAddr rfl fo29_0 nz9 rfl) rfl ?_
          refine wpO.val rfl (oper_load H33 (i := 0) rfl rfl (part_one ag9 rfl)) rfl ?_
          refine wpO.val rfl (oper_move rfl) rfl ?_
          refine wpO.val rfl (oper_bin rfl rfl binD_sneq) rfl ?_
          refine wpO.nil ?_
          refine WpC.cond rfl (fun hb34 => ?_) (fun hb34 => ?_)
          ·
            replace h := if_t hb34 h
            refine WpC.exit ?_
            exact ⟨x20, _, _, S32, .refl _ _, .refl _, (WeakE.cons rfl (.refl _) (WeakE.cons rfl (.refl _) (WeakE.cons rfl (.refl _) (WeakE.cons rfl (.refl _) (WeakE.cons rfl (.refl _) (WeakE.cons rfl (.refl _) WeakE.nil)))))), H33.sel [1, 2] (by decide) rfl, h⟩
          ·
            replace h := if_f hb34 h
            refine WpC.skip ?_
            refine WpC.seq ?_
            obtain ⟨z35, hzz35, h⟩ := bind_some h
            refine WpC.drawP (objR1 E) hmix [[(5, none)], [(7, none)], [(28, some 1)], [(27, some 0), (29, some 2)], [(30, some 3)], [(7, none)], [(32, some 5)], [(31, some 4), (33, some 6)], [(27, some 0), (29, some 2)], [(34, some 7), (35, some 8)]] [(0, none), (1, none), (5, none), (7, none), (17, none), (18, none), (19, none)] (by kernel_rfl) [9] (by decide) [some v11, some (.ptr b29 0 1), some (.d (.int .i64 z28.N)), some (rowPtr v11 (Int.toNat z28.N) 0), some (.d (.int .i64 z35)), some (.ptr b29 0 2), some (.d (.int .i64 z28.Add)), some (.d (.int .i64 (IntKind.wrap .i64 (z35 + z28.Add)))), some (rowPtr v11 (Int.toNat z28.N) 0), none] ?_
            refine ⟨[0, 1, 2, 3, 4, 5, 6, 7, 8], by kernel_rfl, ?_, _, _, rfl, rfl, .step ?_⟩
            ·
              refine .cons rfl rfl rfl (.step ?_) ?_
              ·
                refine wpO.val rfl (oper_move rfl) rfl ?_
                exact wpO.nil ⟨_, _, rfl, fun _ ht => by cases ht; exact ⟨rfl, .refl _⟩⟩
              refine .cons rfl rfl rfl (.step ?_) ?_
              ·
                refine wpO.val rfl (oper_fieldAddr rfl fo29_1 nz3 rfl) rfl ?_
                exact wpO.nil ⟨_, _, rfl, fun _ ht => by cases ht; exact ⟨rfl, .refl _⟩⟩
              refine .cons rfl rfl rfl (.step ?_) ?_
              ·
                refine wpO.val rfl (oper_load H33 (i := 0) rfl rfl (part_one ag3 rfl)) rfl ?_
                exact wpO.nil ⟨_, _, rfl, fun _ ht => by cases ht; exact ⟨rfl, .refl _⟩⟩
              refine .cons rfl rfl rfl (.step ?_) ?_
              ·
                refine wpO.rowIdxP (enc := (D.int .i64)) H33 rfl (i := 1) rfl rfl rfl hzz35 el27 as3 (((fun _ => rfl) _).trans sz3.symm) rfl ?_
                exact wpO.nil ⟨_, _, rfl, fun _ ht => by cases ht; exact ⟨rfl, .refl _⟩⟩
              refine .cons rfl rfl rfl (.step ?_) ?_
              ·
                refine wpO.rowLoadP H33 rfl (i := 1) rfl hzz35 rfl (partD_one ag3 rfl) rfl ?_
                exact wpO.nil ⟨_, _, rfl, fun _ ht => by cases ht; exact ⟨rfl, .refl _⟩⟩
              refine .cons rfl rfl rfl (.step ?_) ?_
              ·
                refine wpO.val rfl (oper_fieldAddr rfl fo29_2 nz3 rfl) rfl ?_
                exact wpO.nil ⟨_, _, rfl, fun _ ht => by cases ht; exact ⟨rfl, .refl _⟩⟩
              refine .cons rfl rfl rfl (.step ?_) ?_
              ·
                refine wpO.val rfl (oper_load H33 (i := 0) rfl rfl (part_one ag3 rfl)) rfl ?_
                exact wpO.nil ⟨_, _, rfl, fun _ ht => by cases ht; exact ⟨rfl, .refl _⟩⟩
              refine .cons rfl rfl rfl (.step ?_) ?_
              ·
                refine wpO.val rfl (oper_bin rfl rfl binD_add) rfl ?_
                exact wpO.nil ⟨_, _, rfl, fun _ ht => by cases ht; exact ⟨rfl, .refl _⟩⟩
              refine .cons rfl rfl rfl (.step ?_) ?_
              ·
                refine wpO.rowIdxP (enc := (D.int .i64)) H33 rfl (i := 1) rfl rfl rfl hzz35 el27 as3 (((fun _ => rfl) _).trans sz3.symm) rfl ?_
                exact wpO.nil ⟨_, _, rfl, fun _ ht => by cases ht; exact ⟨rfl, .refl _⟩⟩
              exact .nil
            refine wpO.rowStoreP (enc := (D.int .i64)) (z' := (IntKind.wrap .i64 (z35 + z28.Add))) (cv := [(.int .i64 (IntKind.wrap .i64 (z35 + z28.Add)))]) H33 rfl (i := 1) rfl hzz35 rfl rfl rfl (.cons (.refl _) .nil) sz3 rfl as3 rfl rfl rfl (fun S38 H39 => ?_)
            refine wpO.nil ⟨_, .any, _, rfl, (fun _ ht => by cases ht), [some v11, some (.ptr b29 0 1), some (.d (.int .i64 z28.N)), some (rowPtr v11 (Int.toNat z28.N) 0), some (.d (.int .i64 z35)), some (.ptr b29 0 2), some (.d (.int .i64 z28.Add)), some (.d (.int .i64 (IntKind.wrap .i64 (z35 + z28.Add)))), some (rowPtr v11 (Int.toNat z28.N) 0), some .any], (.old (.refl _) (.old (.refl _) (.old (.refl _) (.old (.refl _) (.old (.refl _) (.old (.refl _) (.old (.refl _) (.old (.refl _) (.old (.refl _) (.new .nil)))))))))), (fun _ ht => by cases ht), ?_⟩
            refine ⟨[], by kernel_rfl, ?_, _, rfl, ?_⟩
            ·
              exact .nil
            refine WpC.seq ?_
            refine WpC.region (objR1 E) rfl ?_
            refine wpO.val rfl (oper_move rfl) rfl ?_
            refine wpO.val rfl (oper_fieldAddr rfl fo29_1 nz3 rfl) rfl ?_
            refine wpO.val rfl (oper_load H39 (i := 0) rfl rfl (part_one ag3 rfl)) rfl ?_
            obtain ⟨z40, hzz40, h⟩ := bind_some h
            refine wpO.rowIdxP (enc := (D.int .i64)) H39 rfl (i := 1) rfl rfl rfl hzz40 el27 as3 (((fun _ => rfl) _).trans sz3.symm) rfl ?_
            refine wpO.rowLoadP H39 rfl (i := 1) rfl hzz40 rfl (partD_one ag3 rfl) rfl ?_
            obtain ⟨z41, hzz41, h⟩ := bind_some h
            refine wpO.ret rfl (oper_callF rfl rfl) (comp_may_ok E _ _ _ hzz41 _ _ (ArgsC.eq .nil)) rfl ?_
            refine wpO.val rfl (oper_not rfl) rfl ?_
            refine wpO.nil ?_
            refine WpC.cond rfl (fun hb42 => ?_) (fun hb42 => ?_)
            ·
              replace h := if_t hb42 h
              refine WpC.seq ?_
              refine WpC.region (objR1 E) rfl ?_
              refine wpO.val rfl (oper_assign rfl) rfl ?_
              refine wpO.nil ?_
              have hr := Option.some.inj h
              subst hr
              exact WpC.ret ⟨_, rfl, rfl, _, _, _, .refl _, (.refl _), ⟨rfl, rfl⟩, H39.sel [2] (by decide) rfl⟩
            ·
              replace h := if_f hb42 h
              refine WpC.skip ?_
              exact ⟨(setI x20 z28.N (IntKind.wrap .i64 (z35 + z28.Add))), _, _, S38, .refl _ _, .refl _, (WeakE.cons rfl (.refl _) (WeakE.cons rfl (.refl _) (WeakE.cons rfl (.refl _) (WeakE.cons rfl (.refl _) (WeakE.cons rfl (.refl _) (WeakE.cons rfl (.refl _) WeakE.nil)))))), H39.sel [1, 2] (by decide) rfl, h⟩
      ·
        replace h := if_f hb23 h
        refine WpC.exit ?_
        refine WpC.seq ?_
        refine WpC.region (objR1 E) rfl ?_
        refine wpO.val rfl (oper_move rfl) rfl ?_
        refine wpO.val rfl (oper_move rfl) rfl ?_
        refine wpO.val rfl (oper_nilCheck rfl) rfl ?_
        refine wpO.val rfl (oper_fieldAddr rfl fo53_2 nz27 rfl) rfl ?_
        refine wpO.store H19 (i := 1) rfl rfl rfl rfl (row_plain (H19.at (i := 0) rfl)).2 rfl sz27 (row_plain (H19.at (i := 0) rfl)).1 as27 rfl rfl rfl (fun S43 H44 => ?_)
        refine wpO.nil ?_
        refine WpC.seq ?_
        refine WpC.region (objR1 E) rfl ?_
        refine wpO.val rfl (oper_assign rfl) rfl ?_
        refine wpO.nil ?_
        obtain ⟨SF1, HF1, hgF1⟩ := H44.freeze (objR1 E).toObjOk (i := 0) (l' := [.box b1 [(.d (.int .i64 a2.tpl.Kind)), (.d (.int .i64 a2.tpl.N)), (.d (.str a2.tpl.Tag)), (.d (.str a2.tpl.Text)), (.d (.sl ((a2.tpl.Attrs).map encAttr) false)), (.d (.sl ((a2.tpl.Kids).map encTpl) false)), (.d (.sl ((a2.on_).map encOn) false)), (.d (.sl ((x20).map (D.int .i64)) false))]]) rfl (.box (.cons (.same _) (.cons (.same _) (.cons (.same _) (.cons (.same _) (.cons (.same _) (.cons (.same _) (.cons (.same _) (.cons .it .nil)))))))) .nil)
        refine WpC.ghost (hgF1 _ _ [(0, (.ptr b1 0 0)), (1, (.d (.str a3))), (4, (.d (.int .i64 0))), (5, (.d (.sl ((x20).map (D.int .i64)) false))), (17, (.d (.sl ((a2.on_).map encOn) false))), (18, (.d (.int .i64 ((a2.on_).length : Int)))), (19, (.d (.int .i64 x21))), (20, (.d (.bool (decide (x21 < ((a2.on_).length : Int)))))), (44, (.ptr b1 0 0)), (45, (.d (.sl ((x20).map (D.int .i64)) false))), (46, (.ptr b1 0 0)), (47, (.ptr b1 0 7))] (.cons rfl (.refl _) (.cons rfl (.refl _) (.cons rfl (.refl _) (.it rfl (.cons rfl (.refl _) (.cons rfl (.refl _) (.cons rfl (.refl _) (.cons rfl (.refl _) (.cons rfl (.refl _) (.it rfl (.cons rfl (.refl _) (.cons rfl (.refl _) .nil))))))))))))) ?_
        have hr := Option.some.inj h
        subst hr
        exact WpC.ret ⟨_, rfl, rfl, _, _, _, .refl _, (.refl _), ⟨rfl, rfl⟩, HF1.sel [0] (by decide) rfl⟩
set_option maxRecDepth 20000 in
set_option maxHeartbeats 4000000 in
theorem porticobook_Same_int_ok (n : Nat) (a1 : (List Int)) (a2 : (List Int)) (r : Bool) (h : porticobook_Same_int n a1 a2 = some r) : SpecC R cfg.P 8 [(.sl ((a1).map (D.int .i64)) false), (.sl ((a2).map (D.int .i64)) false)] (.d (.bool r)) := by
  unfold porticobook_Same_int at h
  refine SpecC.of_wp E.obj.toObjOk (C := cfg) Tryd.func8 rfl nm8 rfl ?_
  have H0 : Has pureSt pureSt [] := Has.pure
  refine WpC.seq ?_
  refine WpC.region E.obj rfl ?_
  refine wpO.val rfl (oper_assign rfl) rfl ?_
  refine wpO.nil ?_
  refine WpC.seq ?_
  refine WpC.seq ?_
  refine WpC.region E.obj rfl ?_
  refine wpO.val rfl (oper_move rfl) rfl ?_
  refine wpO.val rfl (oper_lenL rfl es27) rfl ?_
  refine wpO.val rfl (oper_move rfl) rfl ?_
  refine wpO.val rfl (oper_lenL rfl es27) rfl ?_
  refine wpO.val rfl (oper_bin rfl rfl binD_neq) rfl ?_
  refine wpO.nil ?_
  refine WpC.cond rfl (fun hb3 => ?_) (fun hb3 => ?_)
  ·
    replace h := if_t hb3 h
    refine WpC.seq ?_
    refine WpC.region E.obj rfl ?_
    refine wpO.val rfl (oper_assign rfl) rfl ?_
    refine wpO.nil ?_
    have hr := Option.some.inj h
    subst hr
    exact WpC.ret ⟨_, rfl, rfl, end1 (ArgsC.eq .nil)⟩
  ·
    replace h := if_f hb3 h
    refine WpC.skip ?_
    refine WpC.seq ?_
    refine WpC.seq ?_
    refine WpC.region E.obj rfl ?_
    refine wpO.val rfl (oper_assign rfl) rfl ?_
    refine wpO.nil ?_
    refine WpC.block ?_
    refine WpL.start (B := pureSt) (α := Int) (fun k a => porticobook_Same_int_l12 a1 a2 k a = some r) (fun a => [(0, (.d (.sl ((a1).map (D.int .i64)) false))), (1, (.d (.sl ((a2).map (D.int .i64)) false))), (5, (.d (.int .i64 a)))]) (fun a => []) ?_ ?_ n ⟨0, _, _, pureSt, .refl _ _, .refl _, (WeakE.cons rfl (.refl _) (WeakE.cons rfl (.refl _) (WeakE.cons rfl (.refl _) WeakE.nil))), H0.sel [] (by decide) rfl, h⟩
    · intro a h; simp [porticobook_Same_int_l12] at h
    ·
      intro k12 x11 S9 H10 h
      replace h : porticobook_Same_int_l12 a1 a2 (k12 + 1) x11 = some r := h
      replace H10 : Has pureSt S9 [] := H10
      unfold porticobook_Same_int_l12 at h
      refine WpC.seq ?_
      refine WpC.seq ?_
      refine WpC.region E.obj rfl ?_
      refine wpO.val rfl (oper_move rfl) rfl ?_
      refine wpO.val rfl (oper_move rfl) rfl ?_
      refine wpO.val rfl (oper_lenL rfl es27) rfl ?_
      refine wpO.val rfl (oper_bin rfl rfl binD_lss) rfl ?_
      refine wpO.nil ?_
      refine WpC.cond rfl (fun hb13 => ?_) (fun hb13 => ?_)
      ·
        replace h := if_t hb13 h
        refine WpC.skip ?_
        refine WpC.seq ?_
        refine WpC.block ?_
        refine WpC.seq ?_
        obtain ⟨z14, hzz14, h⟩ := bind_some h
        obtain ⟨z15, hzz15, h⟩ := bind_some h
        refine WpC.drawP E.obj hmix [[(0, none)], [(5, none)], [(17, some 0), (18, some 1)], [(19, some 2)], [(1, none)], [(5, none)], [(21, some 4), (22, some 5)], [(23, some 6)], [(20, some 3), (24, some 7)]] [(0, none), (1, none), (5, none), (25, some 8)] (by kernel_rfl) [] (by decide) [some (.d (.sl ((a1).map (D.int .i64)) false)), some (.d (.int .i64 x11)), some (.eptr (.int .i64 z14) 0), some (.d (.int .i64 z14)), some (.d (.sl ((a2).map (D.int .i64)) false)), some (.d (.int .i64 x11)), some (.eptr (.int .i64 z15) 0), some (.d (.int .i64 z15)), some (.d (.bool (z14 != z15)))] ?_
        refine ⟨[0, 1, 2, 3, 4, 5, 6, 7, 8], by kernel_rfl, ?_, _, rfl, ?_⟩
        ·
          refine .cons rfl rfl rfl (.step ?_) ?_
          ·
            refine wpO.val rfl (oper_move rfl) rfl ?_
            exact wpO.nil ⟨_, _, rfl, fun _ ht => by cases ht; exact ⟨rfl, .refl _⟩⟩
          refine .cons rfl rfl rfl (.step ?_) ?_
          ·
            refine wpO.val rfl (oper_move rfl) rfl ?_
            exact wpO.nil ⟨_, _, rfl, fun _ ht => by cases ht; exact ⟨rfl, .refl _⟩⟩
          refine .cons rfl rfl rfl (.step ?_) ?_
          ·
            refine wpO.val rfl (oper_idx rfl rfl (idxAddr (enc := (D.int .i64)) hzz14 el27 as3 (((fun _ => rfl) _).trans sz3.symm))) rfl ?_
            exact wpO.nil ⟨_, _, rfl, fun _ ht => by cases ht; exact ⟨rfl, .refl _⟩⟩
          refine .cons rfl rfl rfl (.step ?_) ?_
          ·
            refine wpO.val rfl (oper_loadE rfl (partD_one ag3 rfl)) rfl ?_
            exact wpO.nil ⟨_, _, rfl, fun _ ht => by cases ht; exact ⟨rfl, .refl _⟩⟩
          refine .cons rfl rfl rfl (.step ?_) ?_
          ·
            refine wpO.val rfl (oper_move rfl) rfl ?_
            exact wpO.nil ⟨_, _, rfl, fun _ ht => by cases ht; exact ⟨rfl, .refl _⟩⟩
          refine .cons rfl rfl rfl (.step ?_) ?_
          ·
            refine wpO.val rfl (oper_move rfl) rfl ?_
            exact wpO.nil ⟨_, _, rfl, fun _ ht => by cases ht; exact ⟨rfl, .refl _⟩⟩
          refine .cons rfl rfl rfl (.step ?_) ?_
          ·
            refine wpO.val rfl (oper_idx rfl rfl (idxAddr (enc := (D.int .i64)) hzz15 el27 as3 (((fun _ => rfl) _).trans sz3.symm))) rfl ?_
            exact wpO.nil ⟨_, _, rfl, fun _ ht => by cases ht; exact ⟨rfl, .refl _⟩⟩
          refine .cons rfl rfl rfl (.step ?_) ?_
          ·
            refine wpO.val rfl (oper_loadE rfl (partD_one ag3 rfl)) rfl ?_
            exact wpO.nil ⟨_, _, rfl, fun _ ht => by cases ht; exact ⟨rfl, .refl _⟩⟩
          refine .cons rfl rfl rfl (.step ?_) ?_
          ·
            refine wpO.val rfl (oper_bin rfl rfl binD_neq) rfl ?_
            exact wpO.nil ⟨_, _, rfl, fun _ ht => by cases ht; exact ⟨rfl, .refl _⟩⟩
          exact .nil
        refine WpC.cond rfl (fun hb16 => ?_) (fun hb16 => ?_)
        ·
          replace h := if_t hb16 h
          refine WpC.seq ?_
          refine WpC.region E.obj rfl ?_
          refine wpO.val rfl (oper_assign rfl) rfl ?_
          refine wpO.nil ?_
          have hr := Option.some.inj h
          subst hr
          exact WpC.ret ⟨_, rfl, rfl, end1 (ArgsC.eq .nil)⟩
        ·
          replace h := if_f hb16 h
          refine WpC.skip ?_
          refine WpC.region E.obj rfl ?_
          refine wpO.val rfl (oper_move rfl) rfl ?_
          refine wpO.val rfl (oper_bin rfl rfl binD_add) rfl ?_
          refine wpO.val rfl (oper_assign rfl) rfl ?_
          refine wpO.nil ?_
          exact ⟨(IntKind.wrap .i64 (x11 + 1)), _, _, S9, .refl _ _, .refl _, (WeakE.cons rfl (.refl _) (WeakE.cons rfl (.refl _) (WeakE.cons rfl (.refl _) WeakE.nil))), H10.sel [] (by decide) rfl, h⟩
      ·
        replace h := if_f hb13 h
        refine WpC.exit ?_
        refine WpC.seq ?_
        refine WpC.region E.obj rfl ?_
        refine wpO.val rfl (oper_assign rfl) rfl ?_
        refine wpO.nil ?_
        have hr := Option.some.inj h
        subst hr
        exact WpC.ret ⟨_, rfl, rfl, end1 (ArgsC.eq .nil)⟩
set_option maxRecDepth 20000 in
set_option maxHeartbeats 4000000 in
theorem porticokeep_without_ok : ∀ (n : Nat) (a1 : Tpl) (r : Tpl), porticokeep_without n a1 = some r → SpecC R cfg.P 28 [(encTpl a1)] (.d (encTpl r))
  | 0, a1, r, h => by simp [porticokeep_without] at h
  | n + 1, a1, r, h => by
    have ih := porticokeep_without_ok n
    unfold porticokeep_without at h
    refine SpecC.of_wp E.obj.toObjOk (C := cfg) Tryd.func28 rfl nm28 rfl ?_
    have H0 : Has pureSt pureSt [] := Has.pure
    refine WpC.seq ?_
    refine WpC.region E.obj rfl ?_
    refine wpO.box H0 rfl rfl rfl (Tpl.cellsA _) rfl (fun b2 S3 H4 => ?_)
    refine wpO.alloc H4 rfl ob26 zo26 rfl rfl (fun b5 S6 H7 => ?_)
    refine wpO.nil ?_
    refine WpC.seq ?_
    refine WpC.region E.obj rfl ?_
    refine wpO.val rfl (oper_assign rfl) rfl ?_
    refine wpO.nil ?_
    refine WpC.seq ?_
    refine WpC.seq ?_
    refine WpC.region E.obj rfl ?_
    refine wpO.val rfl (oper_fieldAddr rfl fo26_5 nz24 rfl) rfl ?_
    refine wpO.val rfl (oper_load H7 (i := 1) rfl rfl (part_one ag24 rfl)) rfl ?_
    refine wpO.val rfl (oper_lenL rfl es24) rfl ?_
    refine wpO.val rfl (oper_move rfl) rfl ?_
    refine wpO.nil ?_
    refine WpC.block ?_
    have H43 := H7.nilG
    refine WpL.start (B := pureSt) (α := (List Tpl) × AV × Int) (fun k a => porticokeep_without_l20 (porticokeep_without n) a1 k a.1 a.2.2 = some r) (fun a => [(1, (.ptr b2 0 0)), (2, (.ptr b5 0 0)), (3, a.2.1), (7, (.d (.sl ((a1.Kids).map encTpl) false))), (8, (.d (.int .i64 ((a1.Kids).length : Int)))), (9, (.d (.int .i64 a.2.2)))]) (fun a => [.box b5 [(.d (.int .i64 0)), (.d (.int .i64 0)), (.d (.str [])), (.d (.str [])), (.d .nils), (.d .nils)], .box b2 [(.d (.int .i64 a1.Kind)), (.d (.int .i64 a1.N)), (.d (.str a1.Tag)), (.d (.str a1.Text)), (.d (.sl ((a1.Attrs).map encAttr) false)), (.d (.sl ((a1.Kids).map encTpl) false))], .grow a.2.1 ((a.1).map encTpl)]) ?_ ?_ n ⟨⟨[], (.d .nils), 0⟩, _, _, S6, .refl _ _, .refl _, (WeakE.cons rfl (.refl _) (WeakE.cons rfl (.refl _) (WeakE.cons rfl (.refl _) (WeakE.cons rfl (.refl _) (WeakE.cons rfl (.refl _) (WeakE.cons rfl (.refl _) WeakE.nil)))))), H43.sel [1, 2, 0] (by decide) rfl, h⟩
    · intro a h; simp [porticokeep_without_l20] at h
    ·
      intro k20 a S15 H16 h
      obtain ⟨x17, v18, x19⟩ := a
      replace h : porticokeep_without_l20 (porticokeep_without n) a1 (k20 + 1) x17 x19 = some r := h
      replace H16 : Has pureSt S15 [.box b5 [(.d (.int .i64 0)), (.d (.int .i64 0)), (.d (.str [])), (.d (.str [])), (.d .nils), (.d .nils)], .box b2 [(.d (.int .i64 a1.Kind)), (.d (.int .i64 a1.N)), (.d (.str a1.Tag)), (.d (.str a1.Text)), (.d (.sl ((a1.Attrs).map encAttr) false)), (.d (.sl ((a1.Kids).map encTpl) false))], .grow v18 ((x17).map encTpl)] := H16
      unfold porticokeep_without_l20 at h
      refine WpC.seq ?_
      refine WpC.region E.obj rfl ?_
      refine wpO.val rfl (oper_bin rfl rfl binD_lss) rfl ?_
      refine wpO.nil ?_
      refine WpC.seq ?_
      refine WpC.cond rfl (fun hb21 => ?_) (fun hb21 => ?_)
      ·
        replace h := if_t hb21 h
        refine WpC.skip ?_
        refine WpC.join (B := pureSt) (α := (List Tpl) × AV) (fun a => porticokeep_without_j26 x19 (porticokeep_without_l20 (porticokeep_without n) a1 k20) a.1 = some r) (fun a => [(1, (.ptr b2 0 0)), (2, (.ptr b5 0 0)), (3, a.2), (7, (.d (.sl ((a1.Kids).map encTpl) false))), (8, (.d (.int .i64 ((a1.Kids).length : Int)))), (9, (.d (.int .i64 x19)))]) (fun a => [.box b5 [(.d (.int .i64 0)), (.d (.int .i64 0)), (.d (.str [])), (.d (.str [])), (.d .nils), (.d .nils)], .box b2 [(.d (.int .i64 a1.Kind)), (.d (.int .i64 a1.N)), (.d (.str a1.Tag)), (.d (.str a1.Text)), (.d (.sl ((a1.Attrs).map encAttr) false)), (.d (.sl ((a1.Kids).map encTpl) false))], .grow a.2 ((a.1).map encTpl)]) ?_ ?_
        ·
          intro a S22 H23 h
          obtain ⟨x24, v25⟩ := a
          replace h : porticokeep_without_j26 x19 (porticokeep_without_l20 (porticokeep_without n) a1 k20) x24 = some r := h
          replace H23 : Has pureSt S22 [.box b5 [(.d (.int .i64 0)), (.d (.int .i64 0)), (.d (.str [])), (.d (.str [])), (.d .nils), (.d .nils)], .box b2 [(.d (.int .i64 a1.Kind)), (.d (.int .i64 a1.N)), (.d (.str a1.Tag)), (.d (.str a1.Text)), (.d (.sl ((a1.Attrs).map encAttr) false)), (.d (.sl ((a1.Kids).map encTpl) false))], .grow v25 ((x24).map encTpl)] := H23
          unfold porticokeep_without_j26 at h
          refine WpC.region E.obj rfl ?_
          refine wpO.val rfl (oper_bin rfl rfl binD_add) rfl ?_
          refine wpO.val rfl (oper_move rfl) rfl ?_
          refine wpO.nil ?_
          exact ⟨⟨x24, v25, (IntKind.wrap .i64 (x19 + 1))⟩, _, _, S22, .refl _ _, .refl _, (WeakE.cons rfl (.refl _) (WeakE.cons rfl (.refl _) (WeakE.cons rfl (.refl _) (WeakE.cons rfl (.refl _) (WeakE.cons rfl (.refl _) (WeakE.cons rfl (.refl _) WeakE.nil)))))), H23.sel [0, 1, 2] (by decide) rfl, h⟩
        ·
          refine WpC.block ?_
          refine WpC.seq ?_
          refine WpC.region E.obj rfl ?_
          obtain ⟨z27, hzz27, h⟩ := bind_some h
          refine wpO.val rfl (oper_idx rfl rfl (idxAddr (enc := encTpl) hzz27 el24 as26 ((Tpl.len _).trans sz26.symm))) rfl ?_
          refine wpO.val rfl (oper_loadE rfl (Tpl.partW ag26 sz26)) rfl ?_
          refine wpO.alloc H16 rfl ob26 zo26 rfl rfl (fun b28 S29 H30 => ?_)
          refine wpO.store H30 (i := 0) rfl rfl rfl rfl (Tpl.cellsA _) rfl sz26 rfl as26 rfl rfl rfl (fun S31 H32 => ?_)
          refine wpO.nil ?_
          refine WpC.seq ?_
          refine WpC.region E.obj rfl ?_
          refine wpO.val rfl (oper_fieldAddr rfl fo26_0 nz3 rfl) rfl ?_
          refine wpO.val rfl (oper_load H32 (i := 0) rfl rfl (part_one ag3 rfl)) rfl ?_
          refine wpO.val rfl (oper_bin rfl rfl binD_neq) rfl ?_
          refine wpO.nil ?_
          refine WpC.cond rfl (fun hb33 => ?_) (fun hb33 => ?_)
          ·
            replace h := if_t hb33 h
            refine WpC.region E.obj rfl ?_
            refine wpO.val rfl (oper_move rfl) rfl ?_
            refine wpO.val rfl (oper_load H32 (i := 0) rfl rfl (part_agg ag26 sz26 rfl)) rfl ?_
            refine wpO.less (Less.agg' (d := encTpl z27) (CellsC.eq rfl (CellsC.eq rfl (CellsC.eq rfl (CellsC.eq rfl (CellsC.eq rfl (CellsC.eq rfl .nil)))))) ((Tpl.eq _).trans rfl)) ?_
            obtain ⟨z34, hzz34, h⟩ := bind_some h
            refine wpO.ret rfl (oper_callF rfl rfl) (ih _ _ hzz34 _ _ (ArgsC.eq .nil)) rfl ?_
            refine wpO.val rfl (oper_buildSlice (vs := [(.d (encTpl z34))]) (ds := [(encTpl z34)]) rw24 el24 ag26 zo26 sz26 rfl (by decide) (.cons rfl (Tpl.len _) .nil) rfl (by intro d hd; simp only [List.mem_cons, List.not_mem_nil, or_false] at hd; rcases hd with rfl <;> exact Tpl.agg _) rfl) rfl ?_
            obtain ⟨z35, hzz35, h⟩ := bind_some h
            refine wpO.append (xs := (x17).map encTpl) (ys := ([z34]).map encTpl) (zs := (z35).map encTpl) H32 rfl rfl rfl (i := 3) rfl rfl rw24 os24 el24 (app_bound hzz35) nb26 rfl (sizes_map (enc := encTpl) (fun z => (Tpl.len z).trans sz26.symm) _) (sizes_map (enc := encTpl) (fun z => (Tpl.len z).trans sz26.symm) _) zk26 rfl (app_eq hzz35) (fun v36 S37 H38 => ?_)
            refine wpO.val rfl (oper_assign rfl) rfl ?_
            refine wpO.nil ?_
            exact ⟨⟨z35, v36⟩, _, _, S37, .refl _ _, .refl _, (WeakE.cons rfl (.refl _) (WeakE.cons rfl (.refl _) (WeakE.cons rfl (.refl _) (WeakE.cons rfl (.refl _) (WeakE.cons rfl (.refl _) (WeakE.cons rfl (.refl _) WeakE.nil)))))), H38.sel [1, 2, 3] (by decide) rfl, h⟩
          ·
            replace h := if_f hb33 h
            refine WpC.skip ?_
            exact ⟨⟨x17, v18⟩, _, _, S31, .refl _ _, .refl _, (WeakE.cons rfl (.refl _) (WeakE.cons rfl (.refl _) (WeakE.cons rfl (.refl _) (WeakE.cons rfl (.refl _) (WeakE.cons rfl (.refl _) (WeakE.cons rfl (.refl _) WeakE.nil)))))), H32.sel [1, 2, 3] (by decide) rfl, h⟩
      ·
        replace h := if_f hb21 h
        refine WpC.exit ?_
        refine WpC.seq ?_
        refine WpC.region E.obj rfl ?_
        refine wpO.val rfl (oper_move rfl) rfl ?_
        refine wpO.val rfl (oper_fieldAddr rfl fo26_5 nz24 rfl) rfl ?_
        refine wpO.store H16 (i := 1) rfl rfl rfl rfl (grow_toD (H16.at (i := 2) rfl)).2.2.2.2 rfl sz24 (grow_toD (H16.at (i := 2) rfl)).2.2.2.1 as24 rfl rfl rfl (fun S39 H40 => ?_)
        refine wpO.nil ?_
        refine WpC.seq ?_
        refine WpC.region E.obj rfl ?_
        refine wpO.val rfl (oper_load H40 (i := 1) rfl rfl (part_agg ag26 sz26 rfl)) rfl ?_
        refine wpO.less (Less.agg' (d := encTpl (Tpl.mk a1.Kind a1.N a1.Tag a1.Text a1.Attrs x17)) (CellsC.eq rfl (CellsC.eq rfl (CellsC.eq rfl (CellsC.eq rfl (CellsC.eq rfl (CellsC.grow H40 (i := 2) rfl .nil)))))) ((Tpl.eq _).trans rfl)) ?_
        refine wpO.store H40 (i := 0) rfl rfl rfl rfl (Tpl.cellsA _) rfl sz26 rfl as26 rfl rfl rfl (fun S41 H42 => ?_)
        refine wpO.nil ?_
        have hr := Option.some.inj h
        subst hr
        exact WpC.ret ⟨_, resultsE_cell H42 (i := 0) rfl rfl rfl (part_agg ag26 sz26 rfl), rfl, end1 (ArgsC.less_agg (d := encTpl (Tpl.mk a1.Kind a1.N a1.Tag a1.Text a1.Attrs x17)) (CellsC.eq rfl (CellsC.eq rfl (CellsC.eq rfl (CellsC.eq rfl (CellsC.eq rfl (CellsC.eq rfl .nil)))))) ((Tpl.eq _).trans rfl))⟩
set_option maxRecDepth 20000 in
set_option maxHeartbeats 4000000 in
theorem porticokeep_without_okN : ∀ (n : Nat) (a1 : Tpl) (r : Tpl), porticokeep_without n a1 = some r → SpecN R cfg.P 28 [(encTpl a1)] (fun v l => ∃ w5, v = Ev.mkAgg [.d (.int .i64 r.Kind), .d (.int .i64 r.N), .d (.str r.Tag), .d (.str r.Text), .d (.sl ((r.Attrs).map encAttr) false), w5] ∧ l = [.grow w5 ((r.Kids).map encTpl)])
  | 0, a1, r, h => by simp [porticokeep_without] at h
  | n + 1, a1, r, h => by
    have ih := porticokeep_without_ok E n
    unfold porticokeep_without at h
    refine SpecN.of_wp (C := cfg) Tryd.func28 rfl nm28 rfl (fun S0 wf0 => ?_)
    have H0 : Has S0 S0 [] := Has.start wf0
    refine WpC.seq ?_
    refine WpC.region E.obj rfl ?_
    refine wpO.box H0 rfl rfl rfl (Tpl.cellsA _) rfl (fun b2 S3 H4 => ?_)
    refine wpO.alloc H4 rfl ob26 zo26 rfl rfl (fun b5 S6 H7 => ?_)
    refine wpO.nil ?_
    refine WpC.seq ?_
    refine WpC.region E.obj rfl ?_
    refine wpO.val rfl (oper_assign rfl) rfl ?_
    refine wpO.nil ?_
    refine WpC.seq ?_
    refine WpC.seq ?_
    refine WpC.region E.obj rfl ?_
    refine wpO.val rfl (oper_fieldAddr rfl fo26_5 nz24 rfl) rfl ?_
    refine wpO.val rfl (oper_load H7 (i := 1) rfl rfl (part_one ag24 rfl)) rfl ?_
    refine wpO.val rfl (oper_lenL rfl es24) rfl ?_
    refine wpO.val rfl (oper_move rfl) rfl ?_
    refine wpO.nil ?_
    refine WpC.block ?_
    have H43 := H7.nilG
    refine WpL.start (B := S0) (α := (List Tpl) × AV × Int) (fun k a => porticokeep_without_l20 (porticokeep_without n) a1 k a.1 a.2.2 = some r) (fun a => [(1, (.ptr b2 0 0)), (2, (.ptr b5 0 0)), (3, a.2.1), (7, (.d (.sl ((a1.Kids).map encTpl) false))), (8, (.d (.int .i64 ((a1.Kids).length : Int)))), (9, (.d (.int .i64 a.2.2)))]) (fun a => [.box b5 [(.d (.int .i64 0)), (.d (.int .i64 0)), (.d (.str [])), (.d (.str [])), (.d .nils), (.d .nils)], .box b2 [(.d (.int .i64 a1.Kind)), (.d (.int .i64 a1.N)), (.d (.str a1.Tag)), (.d (.str a1.Text)), (.d (.sl ((a1.Attrs).map encAttr) false)), (.d (.sl ((a1.Kids).map encTpl) false))], .grow a.2.1 ((a.1).map encTpl)]) ?_ ?_ n ⟨⟨[], (.d .nils), 0⟩, _, _, S6, .refl _ _, .refl _, (WeakE.cons rfl (.refl _) (WeakE.cons rfl (.refl _) (WeakE.cons rfl (.refl _) (WeakE.cons rfl (.refl _) (WeakE.cons rfl (.refl _) (WeakE.cons rfl (.refl _) WeakE.nil)))))), H43.sel [1, 2, 0] (by decide) rfl, h⟩
    · intro a h; simp [porticokeep_without_l20] at h
    ·
      intro k20 a S15 H16 h
      obtain ⟨x17, v18, x19⟩ := a
      replace h : porticokeep_without_l20 (porticokeep_without n) a1 (k20 + 1) x17 x19 = some r := h
      replace H16 : Has S0 S15 [.box b5 [(.d (.int .i64 0)), (.d (.int .i64 0)), (.d (.str [])), (.d (.str [])), (.d .nils), (.d .nils)], .box b2 [(.d (.int .i64 a1.Kind)), (.d (.int .i64 a1.N)), (.d (.str a1.Tag)), (.d (.str a1.Text)), (.d (.sl ((a1.Attrs).map encAttr) false)), (.d (.sl ((a1.Kids).map encTpl) false))], .grow v18 ((x17).map encTpl)] := H16
      unfold porticokeep_without_l20 at h
      refine WpC.seq ?_
      refine WpC.region E.obj rfl ?_
      refine wpO.val rfl (oper_bin rfl rfl binD_lss) rfl ?_
      refine wpO.nil ?_
      refine WpC.seq ?_
      refine WpC.cond rfl (fun hb21 => ?_) (fun hb21 => ?_)
      ·
        replace h := if_t hb21 h
        refine WpC.skip ?_
        refine WpC.join (B := S0) (α := (List Tpl) × AV) (fun a => porticokeep_without_j26 x19 (porticokeep_without_l20 (porticokeep_without n) a1 k20) a.1 = some r) (fun a => [(1, (.ptr b2 0 0)), (2, (.ptr b5 0 0)), (3, a.2), (7, (.d (.sl ((a1.Kids).map encTpl) false))), (8, (.d (.int .i64 ((a1.Kids).length : Int)))), (9, (.d (.int .i64 x19)))]) (fun a => [.box b5 [(.d (.int .i64 0)), (.d (.int .i64 0)), (.d (.str [])), (.d (.str [])), (.d .nils), (.d .nils)], .box b2 [(.d (.int .i64 a1.Kind)), (.d (.int .i64 a1.N)), (.d (.str a1.Tag)), (.d (.str a1.Text)), (.d (.sl ((a1.Attrs).map encAttr) false)), (.d (.sl ((a1.Kids).map encTpl) false))], .grow a.2 ((a.1).map encTpl)]) ?_ ?_
        ·
          intro a S22 H23 h
          obtain ⟨x24, v25⟩ := a
          replace h : porticokeep_without_j26 x19 (porticokeep_without_l20 (porticokeep_without n) a1 k20) x24 = some r := h
          replace H23 : Has S0 S22 [.box b5 [(.d (.int .i64 0)), (.d (.int .i64 0)), (.d (.str [])), (.d (.str [])), (.d .nils), (.d .nils)], .box b2 [(.d (.int .i64 a1.Kind)), (.d (.int .i64 a1.N)), (.d (.str a1.Tag)), (.d (.str a1.Text)), (.d (.sl ((a1.Attrs).map encAttr) false)), (.d (.sl ((a1.Kids).map encTpl) false))], .grow v25 ((x24).map encTpl)] := H23
          unfold porticokeep_without_j26 at h
          refine WpC.region E.obj rfl ?_
          refine wpO.val rfl (oper_bin rfl rfl binD_add) rfl ?_
          refine wpO.val rfl (oper_move rfl) rfl ?_
          refine wpO.nil ?_
          exact ⟨⟨x24, v25, (IntKind.wrap .i64 (x19 + 1))⟩, _, _, S22, .refl _ _, .refl _, (WeakE.cons rfl (.refl _) (WeakE.cons rfl (.refl _) (WeakE.cons rfl (.refl _) (WeakE.cons rfl (.refl _) (WeakE.cons rfl (.refl _) (WeakE.cons rfl (.refl _) WeakE.nil)))))), H23.sel [0, 1, 2] (by decide) rfl, h⟩
        ·
          refine WpC.block ?_
          refine WpC.seq ?_
          refine WpC.region E.obj rfl ?_
          obtain ⟨z27, hzz27, h⟩ := bind_some h
          refine wpO.val rfl (oper_idx rfl rfl (idxAddr (enc := encTpl) hzz27 el24 as26 ((Tpl.len _).trans sz26.symm))) rfl ?_
          refine wpO.val rfl (oper_loadE rfl (Tpl.partW ag26 sz26)) rfl ?_
          refine wpO.alloc H16 rfl ob26 zo26 rfl rfl (fun b28 S29 H30 => ?_)
          refine wpO.store H30 (i := 0) rfl rfl rfl rfl (Tpl.cellsA _) rfl sz26 rfl as26 rfl rfl rfl (fun S31 H32 => ?_)
          refine wpO.nil ?_
          refine WpC.seq ?_
          refine WpC.region E.obj rfl ?_
          refine wpO.val rfl (oper_fieldAddr rfl fo26_0 nz3 rfl) rfl ?_
          refine wpO.val rfl (oper_load H32 (i := 0) rfl rfl (part_one ag3 rfl)) rfl ?_
          refine wpO.val rfl (oper_bin rfl rfl binD_neq) rfl ?_
          refine wpO.nil ?_
          refine WpC.cond rfl (fun hb33 => ?_) (fun hb33 => ?_)
          ·
            replace h := if_t hb33 h
            refine WpC.region E.obj rfl ?_
            refine wpO.val rfl (oper_move rfl) rfl ?_
            refine wpO.val rfl (oper_load H32 (i := 0) rfl rfl (part_agg ag26 sz26 rfl)) rfl ?_
            refine wpO.less (Less.agg' (d := encTpl z27) (CellsC.eq rfl (CellsC.eq rfl (CellsC.eq rfl (CellsC.eq rfl (CellsC.eq rfl (CellsC.eq rfl .nil)))))) ((Tpl.eq _).trans rfl)) ?_
            obtain ⟨z34, hzz34, h⟩ := bind_some h
            refine wpO.ret rfl (oper_callF rfl rfl) (ih _ _ hzz34 _ _ (ArgsC.eq .nil)) rfl ?_
            refine wpO.val rfl (oper_buildSlice (vs := [(.d (encTpl z34))]) (ds := [(encTpl z34)]) rw24 el24 ag26 zo26 sz26 rfl (by decide) (.cons rfl (Tpl.len _) .nil) rfl (by intro d hd; simp only [List.mem_cons, List.not_mem_nil, or_false] at hd; rcases hd with rfl <;> exact Tpl.agg _) rfl) rfl ?_
            obtain ⟨z35, hzz35, h⟩ := bind_some h
            refine wpO.append (xs := (x17).map encTpl) (ys := ([z34]).map encTpl) (zs := (z35).map encTpl) H32 rfl rfl rfl (i := 3) rfl rfl rw24 os24 el24 (app_bound hzz35) nb26 rfl (sizes_map (enc := encTpl) (fun z => (Tpl.len z).trans sz26.symm) _) (sizes_map (enc := encTpl) (fun z => (Tpl.len z).trans sz26.symm) _) zk26 rfl (app_eq hzz35) (fun v36 S37 H38 => ?_)
            refine wpO.val rfl (oper_assign rfl) rfl ?_
            refine wpO.nil ?_
            exact ⟨⟨z35, v36⟩, _, _, S37, .refl _ _, .refl _, (WeakE.cons rfl (.refl _) (WeakE.cons rfl (.refl _) (WeakE.cons rfl (.refl _) (WeakE.cons rfl (.refl _) (WeakE.cons rfl (.refl _) (WeakE.cons rfl (.refl _) WeakE.nil)))))), H38.sel [1, 2, 3] (by decide) rfl, h⟩
          ·
            replace h := if_f hb33 h
            refine WpC.skip ?_
            exact ⟨⟨x17, v18⟩, _, _, S31, .refl _ _, .refl _, (WeakE.cons rfl (.refl _) (WeakE.cons rfl (.refl _) (WeakE.cons rfl (.refl _) (WeakE.cons rfl (.refl _) (WeakE.cons rfl (.refl _) (WeakE.cons rfl (.refl _) WeakE.nil)))))), H32.sel [1, 2, 3] (by decide) rfl, h⟩
      ·
        replace h := if_f hb21 h
        refine WpC.exit ?_
        refine WpC.seq ?_
        refine WpC.region E.obj rfl ?_
        refine wpO.val rfl (oper_move rfl) rfl ?_
        refine wpO.val rfl (oper_fieldAddr rfl fo26_5 nz24 rfl) rfl ?_
        refine wpO.store H16 (i := 1) rfl rfl rfl rfl (grow_toD (H16.at (i := 2) rfl)).2.2.2.2 rfl sz24 (grow_toD (H16.at (i := 2) rfl)).2.2.2.1 as24 rfl rfl rfl (fun S39 H40 => ?_)
        refine wpO.nil ?_
        refine WpC.seq ?_
        refine WpC.region E.obj rfl ?_
        refine wpO.val rfl (oper_load H40 (i := 1) rfl rfl (part_agg ag26 sz26 rfl)) rfl ?_
        refine wpO.store H40 (i := 0) rfl rfl rfl rfl (mkAgg_cells _) rfl sz26 (mkAgg_plain _) as26 rfl rfl rfl (fun S41 H42 => ?_)
        refine wpO.nil ?_
        have hr := Option.some.inj h
        subst hr
        exact WpC.ret ⟨_, resultsE_cell H42 (i := 0) rfl rfl rfl (part_agg ag26 sz26 rfl), rfl, _, _, .refl _, ⟨v18, rfl, rfl⟩, H42.sel [2] (by decide) rfl⟩
set_option maxRecDepth 20000 in
set_option maxHeartbeats 4000000 in
theorem porticokeep_Plain_ok (n : Nat) (a1 : Tpl) (a2 : Bool) (r : Tpl) (h : porticokeep_Plain n a1 a2 = some r) : SpecC R cfg.P 18 [(encTpl a1), (.bool a2)] (.d (encTpl r)) := by
  unfold porticokeep_Plain at h
  refine SpecC.of_wp E.obj.toObjOk (C := cfg) Tryd.func18 rfl nm18 rfl ?_
  have H0 : Has pureSt pureSt [] := Has.pure
  refine WpC.seq ?_
  refine WpC.region E.obj rfl ?_
  refine wpO.box H0 rfl rfl rfl (Tpl.cellsA _) rfl (fun b3 S4 H5 => ?_)
  refine wpO.alloc H5 rfl ob26 zo26 rfl rfl (fun b6 S7 H8 => ?_)
  refine wpO.nil ?_
  refine WpC.seq ?_
  refine WpC.region E.obj rfl ?_
  refine wpO.val rfl (oper_load H8 (i := 1) rfl rfl (part_agg ag26 sz26 rfl)) rfl ?_
  refine wpO.less (Less.agg' (d := encTpl a1) (CellsC.eq rfl (CellsC.eq rfl (CellsC.eq rfl (CellsC.eq rfl (CellsC.eq rfl (CellsC.eq rfl .nil)))))) ((Tpl.eq _).trans rfl)) ?_
  obtain ⟨z9, hzz9, h⟩ := bind_some h
  refine wpO.retN H8 rfl (oper_callF rfl rfl) (porticokeep_without_okN E n _ _ hzz9) (ArgsC.eq .nil) rfl ?_
  rintro _ S11 _ ⟨v15, rfl, rfl⟩ H12
  refine wpO.store H12 (i := 2) rfl rfl rfl rfl (mkAgg_cells _) rfl sz26 (mkAgg_plain _) as26 rfl rfl rfl (fun S16 H17 => ?_)
  refine wpO.nil ?_
  refine WpC.join (B := pureSt) (α := (List Tpl) × AV) (fun a => porticokeep_Plain_j22 z9 a.1 = some r) (fun a => [(2, (.ptr b3 0 0)), (4, (.ptr b6 0 0))]) (fun a => [.box b6 [(.d (.int .i64 0)), (.d (.int .i64 0)), (.d (.str [])), (.d (.str [])), (.d .nils), (.d .nils)], .box b3 [(.d (.int .i64 z9.Kind)), (.d (.int .i64 z9.N)), (.d (.str z9.Tag)), (.d (.str z9.Text)), (.d (.sl ((z9.Attrs).map encAttr) false)), a.2], .grow a.2 ((a.1).map encTpl)]) ?_ ?_
  ·
    intro a S18 H19 h
    obtain ⟨x20, v21⟩ := a
    replace h : porticokeep_Plain_j22 z9 x20 = some r := h
    replace H19 : Has pureSt S18 [.box b6 [(.d (.int .i64 0)), (.d (.int .i64 0)), (.d (.str [])), (.d (.str [])), (.d .nils), (.d .nils)], .box b3 [(.d (.int .i64 z9.Kind)), (.d (.int .i64 z9.N)), (.d (.str z9.Tag)), (.d (.str z9.Text)), (.d (.sl ((z9.Attrs).map encAttr) false)), v21], .grow v21 ((x20).map encTpl)] := H19
    unfold porticokeep_Plain_j22 at h
    refine WpC.seq ?_
    refine WpC.region E.obj rfl ?_
    refine wpO.val rfl (oper_load H19 (i := 1) rfl rfl (part_agg ag26 sz26 rfl)) rfl ?_
    refine wpO.less (Less.agg' (d := encTpl (Tpl.mk z9.Kind z9.N z9.Tag z9.Text z9.Attrs x20)) (CellsC.eq rfl (CellsC.eq rfl (CellsC.eq rfl (CellsC.eq rfl (CellsC.eq rfl (CellsC.grow H19 (i := 2) rfl .nil)))))) ((Tpl.eq _).trans rfl)) ?_
    refine wpO.store H19 (i := 0) rfl rfl rfl rfl (Tpl.cellsA _) rfl sz26 rfl as26 rfl rfl rfl (fun S23 H24 => ?_)
    refine wpO.nil ?_
    have hr := Option.some.inj h
    subst hr
    exact WpC.ret ⟨_, resultsE_cell H24 (i := 0) rfl rfl rfl (part_agg ag26 sz26 rfl), rfl, end1 (ArgsC.less_agg (d := encTpl (Tpl.mk z9.Kind z9.N z9.Tag z9.Text z9.Attrs x20)) (CellsC.eq rfl (CellsC.eq rfl (CellsC.eq rfl (CellsC.eq rfl (CellsC.eq rfl (CellsC.eq rfl .nil)))))) ((Tpl.eq _).trans rfl))⟩
  ·
    refine WpC.seq ?_
    refine WpC.region E.obj rfl ?_
    refine wpO.val rfl (oper_move rfl) rfl ?_
    refine wpO.nil ?_
    refine WpC.cond rfl (fun hb25 => ?_) (fun hb25 => ?_)
    ·
      replace h := if_t hb25 h
      refine WpC.region E.obj rfl ?_
      refine wpO.val rfl (oper_fieldAddr rfl fo26_5 nz24 rfl) rfl ?_
      refine wpO.val rfl (oper_load H17 (i := 2) rfl rfl (part_one ag24 rfl)) rfl ?_
      refine wpO.val rfl (oper_build (cs := [(.d (.int .i64 7)), (.d (.int .i64 0)), (.d (.str [])), (.d (.str [])), (.d .nils), (.d .nils)]) zo26 rfl (place_struct26) (fill1 rfl rfl rfl rfl rfl)) rfl ?_
      refine wpO.less (Less.agg' (d := encTpl (Tpl.mk 7 0 [] [] [] [])) (CellsC.eq rfl (CellsC.eq rfl (CellsC.eq rfl (CellsC.eq rfl (CellsC.consW rfl (.nils false) rfl rfl (CellsC.consW rfl (.nils false) rfl rfl .nil)))))) ((Tpl.eq _).trans rfl)) ?_
      refine wpO.val rfl (oper_buildSlice (vs := [(.d (encTpl (Tpl.mk 7 0 [] [] [] [])))]) (ds := [(encTpl (Tpl.mk 7 0 [] [] [] []))]) rw24 el24 ag26 zo26 sz26 rfl (by decide) (.cons rfl (Tpl.len _) .nil) rfl (by intro d hd; simp only [List.mem_cons, List.not_mem_nil, or_false] at hd; rcases hd with rfl <;> exact Tpl.agg _) rfl) rfl ?_
      obtain ⟨z26, hzz26, h⟩ := bind_some h
      refine wpO.append (xs := (z9.Kids).map encTpl) (ys := ([(Tpl.mk 7 0 [] [] [] [])]).map encTpl) (zs := (z26).map encTpl) H17 rfl rfl rfl (i := 0) rfl rfl rw24 os24 el24 (app_bound hzz26) nb26 rfl (sizes_map (enc := encTpl) (fun z => (Tpl.len z).trans sz26.symm) _) (sizes_map (enc := encTpl) (fun z => (Tpl.len z).trans sz26.symm) _) zk26 rfl (app_eq hzz26) (fun v27 S28 H29 => ?_)
      refine wpO.val rfl (oper_fieldAddr rfl fo26_5 nz24 rfl) rfl ?_
      refine wpO.store H29 (i := 2) rfl rfl rfl rfl (grow_toD (H29.at (i := 0) rfl)).2.2.2.2 rfl sz24 (grow_toD (H29.at (i := 0) rfl)).2.2.2.1 as24 rfl rfl rfl (fun S30 H31 => ?_)
      refine wpO.nil ?_
      exact ⟨⟨z26, v27⟩, _, _, S30, .refl _ _, .refl _, (WeakE.cons rfl (.refl _) (WeakE.cons rfl (.refl _) WeakE.nil)), H31.sel [1, 2, 0] (by decide) rfl, h⟩
    ·
      replace h := if_f hb25 h
      refine WpC.skip ?_
      exact ⟨⟨z9.Kids, v15⟩, _, _, S16, .refl _ _, .refl _, (WeakE.cons rfl (.refl _) (WeakE.cons rfl (.refl _) WeakE.nil)), H17.sel [1, 2, 0] (by decide) rfl, h⟩
set_option maxRecDepth 20000 in
set_option maxHeartbeats 4000000 in
theorem porticokeep_pick_ok (n : Nat) (a1 : (List Int)) (a2 : Int) (r : Int) (h : porticokeep_pick n a1 a2 = some r) : SpecC R cfg.P 20 [(.sl ((a1).map (D.int .i64)) false), (.int .i64 a2)] (.d (.int .i64 r)) := by
  unfold porticokeep_pick at h
  refine SpecC.of_wp E.obj.toObjOk (C := cfg) Tryd.func20 rfl nm20 rfl ?_
  have H0 : Has pureSt pureSt [] := Has.pure
  refine WpC.seq ?_
  refine WpC.region E.obj rfl ?_
  refine wpO.val rfl (oper_assign rfl) rfl ?_
  refine wpO.nil ?_
  refine WpC.seq ?_
  refine WpC.seq ?_
  refine WpC.region E.obj rfl ?_
  refine wpO.val rfl (oper_move rfl) rfl ?_
  refine wpO.val rfl (oper_lenL rfl es27) rfl ?_
  refine wpO.val rfl (oper_bin rfl rfl binD_eql) rfl ?_
  refine wpO.nil ?_
  refine WpC.cond rfl (fun hb3 => ?_) (fun hb3 => ?_)
  ·
    replace h := if_t hb3 h
    refine WpC.seq ?_
    refine WpC.region E.obj rfl ?_
    refine wpO.val rfl (oper_assign rfl) rfl ?_
    refine wpO.nil ?_
    have hr := Option.some.inj h
    subst hr
    exact WpC.ret ⟨_, rfl, rfl, end1 (ArgsC.eq .nil)⟩
  ·
    replace h := if_f hb3 h
    refine WpC.skip ?_
    refine WpC.seq ?_
    refine WpC.region E.obj rfl ?_
    refine wpO.val rfl (oper_move rfl) rfl ?_
    refine wpO.val rfl (oper_move rfl) rfl ?_
    refine wpO.val rfl (oper_move rfl) rfl ?_
    refine wpO.val rfl (oper_lenL rfl es27) rfl ?_
    obtain ⟨z4, hzz4, h⟩ := bind_some h
    refine wpO.val rfl (oper_bin rfl rfl (binD_remI hzz4)) rfl ?_
    obtain ⟨z5, hzz5, h⟩ := bind_some h
    refine wpO.val rfl (oper_idx rfl rfl (idxAddr (enc := (D.int .i64)) hzz5 el27 as3 (((fun _ => rfl) _).trans sz3.symm))) rfl ?_
    refine wpO.val rfl (oper_loadE rfl (partD_one ag3 rfl)) rfl ?_
    refine wpO.val rfl (oper_assign rfl) rfl ?_
    refine wpO.nil ?_
    have hr := Option.some.inj h
    subst hr
    exact WpC.ret ⟨_, rfl, rfl, end1 (ArgsC.eq .nil)⟩
set_option maxRecDepth 20000 in
set_option maxHeartbeats 4000000 in
theorem porticokeep_Words_ok (n : Nat)  (r : (List Str)) (h : porticokeep_Words n  = some r) : SpecC R cfg.P 29 [] (.d (.sl ((r).map D.str) false)) := by
  unfold porticokeep_Words at h
  refine SpecC.of_wp E.obj.toObjOk (C := cfg) Tryd.func29 rfl nm29 rfl ?_
  have H0 : Has pureSt pureSt [] := Has.pure
  refine WpC.seq ?_
  refine WpC.region E.obj rfl ?_
  refine wpO.val rfl (oper_assign rfl) rfl ?_
  refine wpO.nil ?_
  refine WpC.seq ?_
  refine WpC.region E.obj rfl ?_
  refine wpO.val rfl (oper_buildSlice (vs := [(.d (.str [97])), (.d (.str [98])), (.d (.str [105, 116, 101, 109])), (.d (.str [120, 32, 121])), (.d (.str [37])), (.d (.str [97, 47, 98])), (.d (.str [46, 46])), (.d (.str [122])), (.d (.str [49])), (.d (.str [108, 105, 115, 116])), (.d (.str [255])), (.d (.str [63, 61, 38]))]) (ds := [(.str [97]), (.str [98]), (.str [105, 116, 101, 109]), (.str [120, 32, 121]), (.str [37]), (.str [97, 47, 98]), (.str [46, 46]), (.str [122]), (.str [49]), (.str [108, 105, 115, 116]), (.str [255]), (.str [63, 61, 38])]) rw45 el45 ag9 zo9 sz9 rfl (by decide) (.cons rfl rfl (.cons rfl rfl (.cons rfl rfl (.cons rfl rfl (.cons rfl rfl (.cons rfl rfl (.cons rfl rfl (.cons rfl rfl (.cons rfl rfl (.cons rfl rfl (.cons rfl rfl (.cons rfl rfl .nil)))))))))))) rfl (by intro d hd; simp only [List.mem_cons, List.not_mem_nil, or_false] at hd; rcases hd with rfl | rfl | rfl | rfl | rfl | rfl | rfl | rfl | rfl | rfl | rfl | rfl <;> rfl) rfl) rfl ?_
  refine wpO.val rfl (oper_assign rfl) rfl ?_
  refine wpO.nil ?_
  have hr := Option.some.inj h
  subst hr
  exact WpC.ret ⟨_, rfl, rfl, end1 (ArgsC.consW rfl (.untight _ _) .nil)⟩
set_option maxRecDepth 20000 in
set_option maxHeartbeats 4000000 in
theorem porticokeep_deep_ok (n : Nat) (a1 : (List Int)) (a2 : Int) (r : Int) (h : porticokeep_deep n a1 a2 = some r) : SpecC R cfg.P 30 [(.sl ((a1).map (D.int .i64)) false), (.int .i64 a2)] (.d (.int .i64 r)) := by
  unfold porticokeep_deep at h
  refine SpecC.of_wp E.obj.toObjOk (C := cfg) Tryd.func30 rfl nm30 rfl ?_
  have H0 : Has pureSt pureSt [] := Has.pure
  refine WpC.seq ?_
  refine WpC.region E.obj rfl ?_
  refine wpO.val rfl (oper_assign rfl) rfl ?_
  refine wpO.nil ?_
  refine WpC.seq ?_
  refine WpC.region E.obj rfl ?_
  refine wpO.val rfl (oper_assign rfl) rfl ?_
  refine wpO.nil ?_
  refine WpC.seq ?_
  refine WpC.block ?_
  refine WpL.start (B := pureSt) (α := Int × Int) (fun k a => porticokeep_deep_l13 a1 k a.1 a.2 = some r) (fun a => [(0, (.d (.sl ((a1).map (D.int .i64)) false))), (1, (.d (.int .i64 a.1))), (5, (.d (.int .i64 a.2)))]) (fun a => []) ?_ ?_ n ⟨⟨a2, 0⟩, _, _, pureSt, .refl _ _, .refl _, (WeakE.cons rfl (.refl _) (WeakE.cons rfl (.refl _) (WeakE.cons rfl (.refl _) WeakE.nil))), H0.sel [] (by decide) rfl, h⟩
  · intro a h; simp [porticokeep_deep_l13] at h
  ·
    intro k13 a S9 H10 h
    obtain ⟨x11, x12⟩ := a
    replace h : porticokeep_deep_l13 a1 (k13 + 1) x11 x12 = some r := h
    replace H10 : Has pureSt S9 [] := H10
    unfold porticokeep_deep_l13 at h
    refine WpC.seq ?_
    refine WpC.seq ?_
    refine WpC.region E.obj rfl ?_
    refine wpO.val rfl (oper_move rfl) rfl ?_
    refine wpO.val rfl (oper_bin rfl rfl binD_geq) rfl ?_
    refine wpO.val rfl (oper_move rfl) rfl ?_
    refine wpO.groupV 3 11 (.d (.bool ((decide (0 ≤ x11)) && (decide (x12 < 99))))) ?_ ?_
    ·
      rcases Bool.eq_false_or_eq_true ((decide (0 ≤ x11))) with hB14 | hB14
      ·
        refine wpO.bool hB14 ?_
        refine wpO.val rfl (oper_move rfl) rfl ?_
        refine wpO.val rfl (oper_bin rfl rfl binD_lss) rfl ?_
        refine wpO.val rfl (oper_pick (b := true) rfl rfl) rfl ?_
        exact wpO.nil ⟨_, rfl, (WeakE.put (WeakE.push rfl (WeakE.push rfl (WeakE.put (.refl _) (Less.eq (by rw [hB14]))))) (Less.eq (by rw [hB14]; rw [Bool.true_and])))⟩
      ·
        refine wpO.bool hB14 ?_
        refine wpO.no rfl rfl ?_
        refine wpO.no rfl rfl ?_
        refine wpO.val rfl (oper_pick (b := false) rfl rfl) rfl ?_
        exact wpO.nil ⟨_, rfl, (WeakE.put (WeakE.push rfl (WeakE.push rfl (WeakE.put (.refl _) (Less.eq (by rw [hB14]))))) (Less.eq (by rw [hB14]; rw [Bool.false_and])))⟩
    ·
      refine wpO.nil ?_
      refine WpC.cond rfl (fun hb15 => ?_) (fun hb15 => ?_)
      ·
        replace h := if_t hb15 h
        refine WpC.skip ?_
        refine WpC.block ?_
        obtain ⟨z16, hzz16, h⟩ := bind_some h
        refine WpC.drawP E.obj hmix [[(5, none)], [(12, some 0)], [(0, none)], [(1, none)], [(14, some 2), (15, some 3)], [(16, some 4)], [(13, some 1)], [(17, some 5)]] [(0, none), (1, some 7), (5, some 6)] (by kernel_rfl) [] (by decide) [some (.d (.int .i64 x12)), some (.d (.int .i64 (IntKind.wrap .i64 (x12 + 1)))), some (.d (.sl ((a1).map (D.int .i64)) false)), some (.d (.int .i64 x11)), some (.eptr (.int .i64 z16) 0), some (.d (.int .i64 z16)), some (.d (.int .i64 (IntKind.wrap .i64 (x12 + 1)))), some (.d (.int .i64 z16))] ?_
        refine ⟨[0, 1, 2, 3, 4, 5, 6, 7], by kernel_rfl, ?_, _, rfl, ?_⟩
        ·
          refine .cons rfl rfl rfl (.step ?_) ?_
          ·
            refine wpO.val rfl (oper_move rfl) rfl ?_
            exact wpO.nil ⟨_, _, rfl, fun _ ht => by cases ht; exact ⟨rfl, .refl _⟩⟩
          refine .cons rfl rfl rfl (.step ?_) ?_
          ·
            refine wpO.val rfl (oper_bin rfl rfl binD_add) rfl ?_
            exact wpO.nil ⟨_, _, rfl, fun _ ht => by cases ht; exact ⟨rfl, .refl _⟩⟩
          refine .cons rfl rfl rfl (.step ?_) ?_
          ·
            refine wpO.val rfl (oper_move rfl) rfl ?_
            exact wpO.nil ⟨_, _, rfl, fun _ ht => by cases ht; exact ⟨rfl, .refl _⟩⟩
          refine .cons rfl rfl rfl (.step ?_) ?_
          ·
            refine wpO.val rfl (oper_move rfl) rfl ?_
            exact wpO.nil ⟨_, _, rfl, fun _ ht => by cases ht; exact ⟨rfl, .refl _⟩⟩
          refine .cons rfl rfl rfl (.step ?_) ?_
          ·
            refine wpO.val rfl (oper_idx rfl rfl (idxAddr (enc := (D.int .i64)) hzz16 el27 as3 (((fun _ => rfl) _).trans sz3.symm))) rfl ?_
            exact wpO.nil ⟨_, _, rfl, fun _ ht => by cases ht; exact ⟨rfl, .refl _⟩⟩
          refine .cons rfl rfl rfl (.step ?_) ?_
          ·
            refine wpO.val rfl (oper_loadE rfl (partD_one ag3 rfl)) rfl ?_
            exact wpO.nil ⟨_, _, rfl, fun _ ht => by cases ht; exact ⟨rfl, .refl _⟩⟩
          refine .cons rfl rfl rfl (.step ?_) ?_
          ·
            refine wpO.val rfl (oper_assign rfl) rfl ?_
            exact wpO.nil ⟨_, _, rfl, fun _ ht => by cases ht; exact ⟨rfl, .refl _⟩⟩
          refine .cons rfl rfl rfl (.step ?_) ?_
          ·
            refine wpO.val rfl (oper_assign rfl) rfl ?_
            exact wpO.nil ⟨_, _, rfl, fun _ ht => by cases ht; exact ⟨rfl, .refl _⟩⟩
          exact .nil
        exact ⟨⟨z16, (IntKind.wrap .i64 (x12 + 1))⟩, _, _, S9, .refl _ _, .refl _, (WeakE.cons rfl (.refl _) (WeakE.cons rfl (.refl _) (WeakE.cons rfl (.refl _) WeakE.nil))), H10.sel [] (by decide) rfl, h⟩
      ·
        replace h := if_f hb15 h
        refine WpC.exit ?_
        refine WpC.seq ?_
        refine WpC.region E.obj rfl ?_
        refine wpO.val rfl (oper_move rfl) rfl ?_
        refine wpO.val rfl (oper_assign rfl) rfl ?_
        refine wpO.nil ?_
        have hr := Option.some.inj h
        subst hr
        exact WpC.ret ⟨_, rfl, rfl, end1 (ArgsC.eq .nil)⟩
set_option maxRecDepth 20000 in
set_option maxHeartbeats 4000000 in
theorem porticokeep_hang_ok : ∀ (n : Nat) (a1 : (List Tpl0)) (a2 : (List Int)) (a3 : Int) (r : Tpl), porticokeep_hang n a1 a2 a3 = some r → SpecC R cfg.P 31 [(.sl ((a1).map encTpl0) false), (.sl ((a2).map (D.int .i64)) false), (.int .i64 a3)] (.d (encTpl r))
  | 0, a1, a2, a3, r, h => by simp [porticokeep_hang] at h
  | n + 1, a1, a2, a3, r, h => by
    have ih := porticokeep_hang_ok n
    unfold porticokeep_hang at h
    refine SpecC.of_wp E.obj.toObjOk (C := cfg) Tryd.func31 rfl nm31 rfl ?_
    have H0 : Has pureSt pureSt [] := Has.pure
    refine WpC.seq ?_
    refine WpC.region E.obj rfl ?_
    refine wpO.alloc H0 rfl ob26 zo26 rfl rfl (fun b4 S5 H6 => ?_)
    refine wpO.nil ?_
    refine WpC.seq ?_
    refine WpC.region E.obj rfl ?_
    refine wpO.val rfl (oper_move rfl) rfl ?_
    refine wpO.val rfl (oper_move rfl) rfl ?_
    obtain ⟨z7, hzz7, h⟩ := bind_some h
    refine wpO.val rfl (oper_idx rfl rfl (idxAddr (enc := encTpl0) hzz7 el24 as26 ((Tpl0.len _).trans sz26.symm))) rfl ?_
    refine wpO.val rfl (oper_loadE rfl (Tpl0.partW ag26 sz26)) rfl ?_
    refine wpO.alloc H6 rfl ob26 zo26 rfl rfl (fun b8 S9 H10 => ?_)
    refine wpO.store H10 (i := 0) rfl rfl rfl rfl (Tpl0.cellsA _) rfl sz26 rfl as26 rfl rfl rfl (fun S11 H12 => ?_)
    refine wpO.nil ?_
    refine WpC.seq ?_
    refine WpC.seq ?_
    refine WpC.region E.obj rfl ?_
    refine wpO.val rfl (oper_move rfl) rfl ?_
    refine wpO.val rfl (oper_lenL rfl es24) rfl ?_
    refine wpO.val rfl (oper_move rfl) rfl ?_
    refine wpO.nil ?_
    refine WpC.block ?_
    have H48 := H12.nilG
    refine WpL.start (B := pureSt) (α := (List Tpl) × AV × Int) (fun k a => porticokeep_hang_l25 (porticokeep_hang n) a1 a2 a3 z7 k a.1 a.2.2 = some r) (fun a => [(0, (.d (.sl ((a1).map encTpl0) false))), (1, (.d (.sl ((a2).map (D.int .i64)) false))), (2, (.d (.int .i64 a3))), (6, (.ptr b4 0 0)), (7, (.ptr b8 0 0)), (14, (.d (.int .i64 ((a1).length : Int)))), (15, (.d (.int .i64 a.2.2)))]) (fun a => [.box b8 [(.d (.int .i64 z7.Kind)), (.d (.int .i64 z7.N)), (.d (.str z7.Tag)), (.d (.str z7.Text)), (.d (.sl ((z7.Attrs).map encAttr) false)), a.2.1], .box b4 [(.d (.int .i64 0)), (.d (.int .i64 0)), (.d (.str [])), (.d (.str [])), (.d .nils), (.d .nils)], .grow a.2.1 ((a.1).map encTpl)]) ?_ ?_ n ⟨⟨[], (.d .nils), 0⟩, _, _, S11, .refl _ _, .refl _, (WeakE.cons rfl (.refl _) (WeakE.cons rfl (.refl _) (WeakE.cons rfl (.refl _) (WeakE.cons rfl (.refl _) (WeakE.cons rfl (.refl _) (WeakE.cons rfl (.refl _) (WeakE.cons rfl (.refl _) WeakE.nil))))))), H48.sel [1, 2, 0] (by decide) rfl, h⟩
    · intro a h; simp [porticokeep_hang_l25] at h
    ·
      intro k25 a S20 H21 h
      obtain ⟨x22, v23, x24⟩ := a
      replace h : porticokeep_hang_l25 (porticokeep_hang n) a1 a2 a3 z7 (k25 + 1) x22 x24 = some r := h
      replace H21 : Has pureSt S20 [.box b8 [(.d (.int .i64 z7.Kind)), (.d (.int .i64 z7.N)), (.d (.str z7.Tag)), (.d (.str z7.Text)), (.d (.sl ((z7.Attrs).map encAttr) false)), v23], .box b4 [(.d (.int .i64 0)), (.d (.int .i64 0)), (.d (.str [])), (.d (.str [])), (.d .nils), (.d .nils)], .grow v23 ((x22).map encTpl)] := H21
      unfold porticokeep_hang_l25 at h
      refine WpC.seq ?_
      refine WpC.region E.obj rfl ?_
      refine wpO.val rfl (oper_bin rfl rfl binD_lss) rfl ?_
      refine wpO.nil ?_
      refine WpC.seq ?_
      refine WpC.cond rfl (fun hb26 => ?_) (fun hb26 => ?_)
      ·
        replace h := if_t hb26 h
        refine WpC.skip ?_
        refine WpC.join (B := pureSt) (α := (List Tpl) × AV) (fun a => porticokeep_hang_j31 x24 (porticokeep_hang_l25 (porticokeep_hang n) a1 a2 a3 z7 k25) a.1 = some r) (fun a => [(0, (.d (.sl ((a1).map encTpl0) false))), (1, (.d (.sl ((a2).map (D.int .i64)) false))), (2, (.d (.int .i64 a3))), (6, (.ptr b4 0 0)), (7, (.ptr b8 0 0)), (14, (.d (.int .i64 ((a1).length : Int)))), (15, (.d (.int .i64 x24)))]) (fun a => [.box b8 [(.d (.int .i64 z7.Kind)), (.d (.int .i64 z7.N)), (.d (.str z7.Tag)), (.d (.str z7.Text)), (.d (.sl ((z7.Attrs).map encAttr) false)), a.2], .box b4 [(.d (.int .i64 0)), (.d (.int .i64 0)), (.d (.str [])), (.d (.str [])), (.d .nils), (.d .nils)], .grow a.2 ((a.1).map encTpl)]) ?_ ?_
        ·
          intro a S27 H28 h
          obtain ⟨x29, v30⟩ := a
          replace h : porticokeep_hang_j31 x24 (porticokeep_hang_l25 (porticokeep_hang n) a1 a2 a3 z7 k25) x29 = some r := h
          replace H28 : Has pureSt S27 [.box b8 [(.d (.int .i64 z7.Kind)), (.d (.int .i64 z7.N)), (.d (.str z7.Tag)), (.d (.str z7.Text)), (.d (.sl ((z7.Attrs).map encAttr) false)), v30], .box b4 [(.d (.int .i64 0)), (.d (.int .i64 0)), (.d (.str [])), (.d (.str [])), (.d .nils), (.d .nils)], .grow v30 ((x29).map encTpl)] := H28
          unfold porticokeep_hang_j31 at h
          refine WpC.region E.obj rfl ?_
          refine wpO.val rfl (oper_bin rfl rfl binD_add) rfl ?_
          refine wpO.val rfl (oper_move rfl) rfl ?_
          refine wpO.nil ?_
          exact ⟨⟨x29, v30, (IntKind.wrap .i64 (x24 + 1))⟩, _, _, S27, .refl _ _, .refl _, (WeakE.cons rfl (.refl _) (WeakE.cons rfl (.refl _) (WeakE.cons rfl (.refl _) (WeakE.cons rfl (.refl _) (WeakE.cons rfl (.refl _) (WeakE.cons rfl (.refl _) (WeakE.cons rfl (.refl _) WeakE.nil))))))), H28.sel [0, 1, 2] (by decide) rfl, h⟩
        ·
          refine WpC.block ?_
          refine WpC.seq ?_
          refine WpC.region E.obj rfl ?_
          refine wpO.val rfl (oper_move rfl) rfl ?_
          refine wpO.val rfl (oper_assign rfl) rfl ?_
          refine wpO.nil ?_
          refine WpC.seq ?_
          refine WpC.region E.obj rfl ?_
          refine wpO.val rfl (oper_move rfl) rfl ?_
          refine wpO.val rfl (oper_move rfl) rfl ?_
          obtain ⟨z32, hzz32, h⟩ := bind_some h
          refine wpO.val rfl (oper_idx rfl rfl (idxAddr (enc := (D.int .i64)) hzz32 el27 as3 (((fun _ => rfl) _).trans sz3.symm))) rfl ?_
          refine wpO.val rfl (oper_loadE rfl (partD_one ag3 rfl)) rfl ?_
          refine wpO.val rfl (oper_move rfl) rfl ?_
          refine wpO.val rfl (oper_bin rfl rfl binD_eql) rfl ?_
          refine wpO.nil ?_
          refine WpC.cond rfl (fun hb33 => ?_) (fun hb33 => ?_)
          ·
            replace h := if_t hb33 h
            obtain ⟨z34, hzz34, h⟩ := bind_some h
            obtain ⟨z35, hzz35, h⟩ := bind_some h
            refine WpC.drawP E.obj hmix [[(7, none)], [(24, some 0)], [(0, none)], [(1, none)], [(8, none)], [(26, some 2), (27, some 3), (28, some 4)], [(29, some 5)], [(25, some 1), (30, some 6)], [(7, none)], [(31, some 7), (32, some 8)]] [(0, none), (1, none), (2, none), (6, none), (7, none), (14, none), (15, none)] (by kernel_rfl) [7, 9] (by decide) [some (.ptr b8 0 5), some v23, some (.d (.sl ((a1).map encTpl0) false)), some (.d (.sl ((a2).map (D.int .i64)) false)), some (.d (.int .i64 x24)), some (.d (encTpl z34)), some (.d (.sl (([z34]).map encTpl) true)), none, none, none] ?_
            refine ⟨[0, 1, 2, 3, 4, 5, 6], by kernel_rfl, ?_, _, _, rfl, rfl, .step ?_⟩
            ·
              refine .cons rfl rfl rfl (.step ?_) ?_
              ·
                refine wpO.val rfl (oper_fieldAddr rfl fo26_5 nz24 rfl) rfl ?_
                exact wpO.nil ⟨_, _, rfl, fun _ ht => by cases ht; exact ⟨rfl, .refl _⟩⟩
              refine .cons rfl rfl rfl (.step ?_) ?_
              ·
                refine wpO.val rfl (oper_load H21 (i := 0) rfl rfl (part_one ag24 rfl)) rfl ?_
                exact wpO.nil ⟨_, _, rfl, fun _ ht => by cases ht; exact ⟨rfl, .refl _⟩⟩
              refine .cons rfl rfl rfl (.step ?_) ?_
              ·
                refine wpO.val rfl (oper_move rfl) rfl ?_
                exact wpO.nil ⟨_, _, rfl, fun _ ht => by cases ht; exact ⟨rfl, .refl _⟩⟩
              refine .cons rfl rfl rfl (.step ?_) ?_
              ·
                refine wpO.val rfl (oper_move rfl) rfl ?_
                exact wpO.nil ⟨_, _, rfl, fun _ ht => by cases ht; exact ⟨rfl, .refl _⟩⟩
              refine .cons rfl rfl rfl (.step ?_) ?_
              ·
                refine wpO.val rfl (oper_move rfl) rfl ?_
                exact wpO.nil ⟨_, _, rfl, fun _ ht => by cases ht; exact ⟨rfl, .refl _⟩⟩
              refine .cons rfl rfl rfl (.step ?_) ?_
              ·
                refine wpO.ret rfl (oper_callF rfl rfl) (ih _ _ _ _ hzz34 _ _ (ArgsC.eq (ArgsC.eq (ArgsC.eq .nil)))) rfl ?_
                exact wpO.nil ⟨_, _, rfl, fun _ ht => by cases ht; exact ⟨rfl, .refl _⟩⟩
              refine .cons rfl rfl rfl (.step ?_) ?_
              ·
                refine wpO.val rfl (oper_buildSlice (vs := [(.d (encTpl z34))]) (ds := [(encTpl z34)]) rw24 el24 ag26 zo26 sz26 rfl (by decide) (.cons rfl (Tpl.len _) .nil) rfl (by intro d hd; simp only [List.mem_cons, List.not_mem_nil, or_false] at hd; rcases hd with rfl <;> exact Tpl.agg _) rfl) rfl ?_
                exact wpO.nil ⟨_, _, rfl, fun _ ht => by cases ht; exact ⟨rfl, .refl _⟩⟩
              exact .nil
            refine wpO.append (xs := (x22).map encTpl) (ys := ([z34]).map encTpl) (zs := (z35).map encTpl) H21 rfl rfl rfl (i := 2) rfl rfl rw24 os24 el24 (app_bound hzz35) nb26 rfl (sizes_map (enc := encTpl) (fun z => (Tpl.len z).trans sz26.symm) _) (sizes_map (enc := encTpl) (fun z => (Tpl.len z).trans sz26.symm) _) zk26 rfl (app_eq hzz35) (fun v41 S42 H43 => ?_)
            refine wpO.nil ⟨_, _, _, rfl, (fun _ ht => by cases ht; rfl), [some (.ptr b8 0 5), some v23, some (.d (.sl ((a1).map encTpl0) false)), some (.d (.sl ((a2).map (D.int .i64)) false)), some (.d (.int .i64 x24)), some (.d (encTpl z34)), some (.d (.sl (([z34]).map encTpl) true)), some v41, some (.ptr b8 0 5), none], (.old (.refl _) (.old (.refl _) (.old (.refl _) (.old (.refl _) (.old (.refl _) (.old (.refl _) (.old (.refl _) (.new (.new (.new .nil)))))))))), (fun _ ht => by cases ht; exact ⟨_, rfl, .refl _⟩), ?_⟩
            refine ⟨[8], by kernel_rfl, ?_, _, _, rfl, rfl, .step ?_⟩
            ·
              refine .cons rfl rfl rfl (.step ?_) ?_
              ·
                refine wpO.val rfl (oper_fieldAddr rfl fo26_5 nz24 rfl) rfl ?_
                exact wpO.nil ⟨_, _, rfl, fun _ ht => by cases ht; exact ⟨rfl, .refl _⟩⟩
              exact .nil
            refine wpO.store H43 (i := 0) rfl rfl rfl rfl (grow_toD (H43.at (i := 2) rfl)).2.2.2.2 rfl sz24 (grow_toD (H43.at (i := 2) rfl)).2.2.2.1 as24 rfl rfl rfl (fun S44 H45 => ?_)
            refine wpO.nil ⟨_, .any, _, rfl, (fun _ ht => by cases ht), [some (.ptr b8 0 5), some v23, some (.d (.sl ((a1).map encTpl0) false)), some (.d (.sl ((a2).map (D.int .i64)) false)), some (.d (.int .i64 x24)), some (.d (encTpl z34)), some (.d (.sl (([z34]).map encTpl) true)), some v41, some (.ptr b8 0 5), some .any], (.old (.refl _) (.old (.refl _) (.old (.refl _) (.old (.refl _) (.old (.refl _) (.old (.refl _) (.old (.refl _) (.old (.refl _) (.old (.refl _) (.new .nil)))))))))), (fun _ ht => by cases ht), ?_⟩
            refine ⟨[], by kernel_rfl, ?_, _, rfl, ?_⟩
            ·
              exact .nil
            exact ⟨⟨z35, v41⟩, _, _, S44, .refl _ _, .refl _, (WeakE.cons rfl (.refl _) (WeakE.cons rfl (.refl _) (WeakE.cons rfl (.refl _) (WeakE.cons rfl (.refl _) (WeakE.cons rfl (.refl _) (WeakE.cons rfl (.refl _) (WeakE.cons rfl (.refl _) WeakE.nil))))))), H45.sel [0, 1, 2] (by decide) rfl, h⟩
          ·
            replace h := if_f hb33 h
            refine WpC.skip ?_
            exact ⟨⟨x22, v23⟩, _, _, S20, .refl _ _, .refl _, (WeakE.cons rfl (.refl _) (WeakE.cons rfl (.refl _) (WeakE.cons rfl (.refl _) (WeakE.cons rfl (.refl _) (WeakE.cons rfl (.refl _) (WeakE.cons rfl (.refl _) (WeakE.cons rfl (.refl _) WeakE.nil))))))), H21.sel [0, 1, 2] (by decide) rfl, h⟩
      ·
        replace h := if_f hb26 h
        refine WpC.exit ?_
        refine WpC.seq ?_
        refine WpC.region E.obj rfl ?_
        refine wpO.val rfl (oper_load H21 (i := 0) rfl rfl (part_agg ag26 sz26 rfl)) rfl ?_
        refine wpO.less (Less.agg' (d := encTpl (Tpl.mk z7.Kind z7.N z7.Tag z7.Text z7.Attrs x22)) (CellsC.eq rfl (CellsC.eq rfl (CellsC.eq rfl (CellsC.eq rfl (CellsC.eq rfl (CellsC.grow H21 (i := 2) rfl .nil)))))) ((Tpl.eq _).trans rfl)) ?_
        refine wpO.store H21 (i := 1) rfl rfl rfl rfl (Tpl.cellsA _) rfl sz26 rfl as26 rfl rfl rfl (fun S46 H47 => ?_)
        refine wpO.nil ?_
        have hr := Option.some.inj h
        subst hr
        exact WpC.ret ⟨_, resultsE_cell H47 (i := 1) rfl rfl rfl (part_agg ag26 sz26 rfl), rfl, end1 (ArgsC.less_agg (d := encTpl (Tpl.mk z7.Kind z7.N z7.Tag z7.Text z7.Attrs x22)) (CellsC.eq rfl (CellsC.eq rfl (CellsC.eq rfl (CellsC.eq rfl (CellsC.eq rfl (CellsC.eq rfl .nil)))))) ((Tpl.eq _).trans rfl))⟩
end
end Pr
end Go.Ev


import Derived.Test.YtfohjknpgnkobaaDoorPartD
import Derived.Test.YtfohjknpgnkobaaDoorProg
import Derived.WalkKit
import Derived.ProofKit
import Derived.IntWalk
namespace Go.Ev
namespace Pr
set_option linter.unusedVariables false
set_option linter.unusedSimpArgs false
open Go.Proofs
noncomputable def cfg : Cfg := { P := Tryd.prog, good := fun _ => true, rowT := fun _ => false, prim := fun _ _ _ => none, objT := fun _ => none, hasPrim := fun _ => false }
noncomputable def cfgR1 : Cfg := { cfg with rowT := fun t => Nat.beq t 27 }
noncomputable def cfgR2 : Cfg := { cfg with rowT := fun t => Nat.beq t 24 }
theorem nm5 : (Tryd.f5.name == "runtime.NumGoroutine") = false := by kernel_rfl
theorem nm16 : (Tryd.f16.name == "runtime.NumGoroutine") = false := by kernel_rfl
theorem es27 : (elemSl cfg.P 27).isSome = true := by kernel_rfl
theorem el27 : elemSl cfg.P 27 = some 3 := by kernel_rfl
theorem as3 : (aggO cfg.P 3).isSome = true := by kernel_rfl
theorem sz3 : szOf cfg.P 3 = 1 := by kernel_rfl
theorem ag3 : aggO cfg.P 3 = some false := by kernel_rfl
theorem nm46 : (Tryd.f46.name == "runtime.NumGoroutine") = false := by kernel_rfl
theorem nm32 : (Tryd.f32.name == "runtime.NumGoroutine") = false := by kernel_rfl
theorem nm33 : (Tryd.f33.name == "runtime.NumGoroutine") = false := by kernel_rfl
theorem nm21 : (Tryd.f21.name == "runtime.NumGoroutine") = false := by kernel_rfl
theorem fo26_5 : fieldOf cfg.P 26 5 = some (5, 24) := by kernel_rfl
theorem nz24 : Nat.beq (szOf cfg.P 24) 0 = false := by kernel_rfl
theorem ag24 : aggO cfg.P 24 = some false := by kernel_rfl
theorem es24 : (elemSl cfg.P 24).isSome = true := by kernel_rfl
theorem el24 : elemSl cfg.P 24 = some 26 := by kernel_rfl
theorem as26 : (aggO cfg.P 26).isSome = true := by kernel_rfl
theorem sz26 : szOf cfg.P 26 = 6 := by kernel_rfl
theorem ag26 : aggO cfg.P 26 = some true := by kernel_rfl
theorem ob26 : cfg.objT 26 = none := by kernel_rfl
theorem zo26 : zeroOf cfg.P 26 = some (.agg [.int .i64 0, .int .i64 0, .str [], .str [], .nils, .nils]) := by kernel_rfl
theorem nm34 : (Tryd.f34.name == "runtime.NumGoroutine") = false := by kernel_rfl
theorem fo26_1 : fieldOf cfg.P 26 1 = some (1, 3) := by kernel_rfl
theorem nz3 : Nat.beq (szOf cfg.P 3) 0 = false := by kernel_rfl
theorem fo26_0 : fieldOf cfg.P 26 0 = some (0, 3) := by kernel_rfl
theorem fo26_2 : fieldOf cfg.P 26 2 = some (2, 9) := by kernel_rfl
theorem nz9 : Nat.beq (szOf cfg.P 9) 0 = false := by kernel_rfl
theorem ag9 : aggO cfg.P 9 = some false := by kernel_rfl
theorem nm35 : (Tryd.f35.name == "runtime.NumGoroutine") = false := by kernel_rfl
theorem nm22 : (Tryd.f22.name == "runtime.NumGoroutine") = false := by kernel_rfl
theorem fo32_1 : fieldOf cfg.P 32 1 = some (6, 27) := by kernel_rfl
theorem nz27 : Nat.beq (szOf cfg.P 27) 0 = false := by kernel_rfl
theorem ag27 : aggO cfg.P 27 = some false := by kernel_rfl
theorem fo32_2 : fieldOf cfg.P 32 2 = some (7, 30) := by kernel_rfl
theorem nz30 : Nat.beq (szOf cfg.P 30) 0 = false := by kernel_rfl
theorem ag30 : aggO cfg.P 30 = some false := by kernel_rfl
theorem es30 : (elemSl cfg.P 30).isSome = true := by kernel_rfl
theorem fo32_0 : fieldOf cfg.P 32 0 = some (0, 26) := by kernel_rfl
theorem nz26 : Nat.beq (szOf cfg.P 26) 0 = false := by kernel_rfl
theorem el30 : elemSl cfg.P 30 = some 29 := by kernel_rfl
theorem as29 : (aggO cfg.P 29).isSome = true := by kernel_rfl
theorem sz29 : szOf cfg.P 29 = 3 := by kernel_rfl
theorem ag29 : aggO cfg.P 29 = some true := by kernel_rfl
theorem ob29 : cfg.objT 29 = none := by kernel_rfl
theorem zo29 : zeroOf cfg.P 29 = some (.agg [.str [], .int .i64 0, .int .i64 0]) := by kernel_rfl
theorem fo29_0 : fieldOf cfg.P 29 0 = some (0, 9) := by kernel_rfl
theorem st9 : strT cfg.P 9 = true := by kernel_rfl
theorem fo29_1 : fieldOf cfg.P 29 1 = some (1, 3) := by kernel_rfl
theorem fo29_2 : fieldOf cfg.P 29 2 = some (2, 3) := by kernel_rfl
theorem nm12 : (Tryd.f12.name == "runtime.NumGoroutine") = false := by kernel_rfl
theorem nm17 : (Tryd.f17.name == "runtime.NumGoroutine") = false := by kernel_rfl
theorem us27s : cfg.P.underlying 27 = some (.slice 3) := by kernel_rfl
theorem rw27 : cfg.rowT 27 = false := by kernel_rfl
theorem os27 : okSrc cfg 27 = true := by kernel_rfl
theorem nb3 : bytesOf cfg.P 3 = 8 := by kernel_rfl
theorem zk3 : zeroOk cfg 3 = true := by kernel_rfl
theorem bs27xR1 : asRow cfgR1 27 0 = false := by kernel_rfl
theorem rw27R1 : cfgR1.rowT 27 = true := by kernel_rfl
theorem os27R1 : okSrc cfgR1 27 = true := by kernel_rfl
theorem zk3R1 : zeroOk cfgR1 3 = true := by kernel_rfl
theorem nm44 : (Tryd.f44.name == "runtime.NumGoroutine") = false := by kernel_rfl
theorem us23s : cfg.P.underlying 23 = some (.slice 68) := by kernel_rfl
theorem sz68 : szOf cfg.P 68 = 2 := by kernel_rfl
theorem rw23 : cfg.rowT 23 = false := by kernel_rfl
theorem el23 : elemSl cfg.P 23 = some 68 := by kernel_rfl
theorem ag68 : aggO cfg.P 68 = some true := by kernel_rfl
theorem os23 : okSrc cfg 23 = true := by kernel_rfl
theorem nb68 : bytesOf cfg.P 68 = 32 := by kernel_rfl
theorem zk68 : zeroOk cfg 68 = true := by kernel_rfl
theorem nm45 : (Tryd.f45.name == "runtime.NumGoroutine") = false := by kernel_rfl
theorem us24s : cfg.P.underlying 24 = some (.slice 26) := by kernel_rfl
theorem nb26 : bytesOf cfg.P 26 = 96 := by kernel_rfl
theorem bs24xR2 : asRow cfgR2 24 0 = false := by kernel_rfl
theorem rw24R2 : cfgR2.rowT 24 = true := by kernel_rfl
theorem os24R2 : okSrc cfgR2 24 = true := by kernel_rfl
theorem zk26R2 : zeroOk cfgR2 26 = true := by kernel_rfl
theorem ob26R2 : cfgR2.objT 26 = none := by kernel_rfl
theorem fo26_4 : fieldOf cfg.P 26 4 = some (4, 23) := by kernel_rfl
theorem nz23 : Nat.beq (szOf cfg.P 23) 0 = false := by kernel_rfl
theorem ag23 : aggO cfg.P 23 = some false := by kernel_rfl
theorem sz23 : szOf cfg.P 23 = 1 := by kernel_rfl
theorem as23 : (aggO cfg.P 23).isSome = true := by kernel_rfl
theorem sz24 : szOf cfg.P 24 = 1 := by kernel_rfl
theorem as24 : (aggO cfg.P 24).isSome = true := by kernel_rfl
theorem hmix : cfg.P.follows .mixedOrders = true := by kernel_rfl
theorem nm26 : (Tryd.f26.name == "runtime.NumGoroutine") = false := by kernel_rfl
theorem nm27 : (Tryd.f27.name == "runtime.NumGoroutine") = false := by kernel_rfl
theorem us30s : cfg.P.underlying 30 = some (.slice 29) := by kernel_rfl
theorem rw30 : cfg.rowT 30 = false := by kernel_rfl
theorem os30 : okSrc cfg 30 = true := by kernel_rfl
theorem nb29 : bytesOf cfg.P 29 = 32 := by kernel_rfl
theorem zk29 : zeroOk cfg 29 = true := by kernel_rfl
theorem ag32 : aggO cfg.P 32 = some true := by kernel_rfl
theorem sz32 : szOf cfg.P 32 = 8 := by kernel_rfl
theorem zo53 : zeroOf cfg.P 53 = some (.agg [.int .i64 0, .int .i64 0, .str [], .str [], .nils, .nils, .nils, .nils]) := by kernel_rfl
theorem nm15 : (Tryd.f15.name == "runtime.NumGoroutine") = false := by kernel_rfl
theorem nm6 : (Tryd.f6.name == "runtime.NumGoroutine") = false := by kernel_rfl
theorem fo53_2 : fieldOf cfg.P 53 2 = some (7, 27) := by kernel_rfl
theorem nm9 : (Tryd.f9.name == "runtime.NumGoroutine") = false := by kernel_rfl
theorem nm43 : (Tryd.f43.name == "runtime.NumGoroutine") = false := by kernel_rfl
theorem nm24 : (Tryd.f24.name == "runtime.NumGoroutine") = false := by kernel_rfl
theorem nm25 : (Tryd.f25.name == "runtime.NumGoroutine") = false := by kernel_rfl
theorem fo53_1 : fieldOf cfg.P 53 1 = some (6, 30) := by kernel_rfl
theorem nm13 : (Tryd.f13.name == "runtime.NumGoroutine") = false := by kernel_rfl
theorem ob29R1 : cfgR1.objT 29 = none := by kernel_rfl
theorem sz27 : szOf cfg.P 27 = 1 := by kernel_rfl
theorem as27 : (aggO cfg.P 27).isSome = true := by kernel_rfl
theorem nm7 : (Tryd.f7.name == "runtime.NumGoroutine") = false := by kernel_rfl
theorem nm8 : (Tryd.f8.name == "runtime.NumGoroutine") = false := by kernel_rfl
theorem zo3 : zeroOf cfg.P 3 = some (.int .i64 0) := by kernel_rfl
theorem zo32 : zeroOf cfg.P 32 = some (.agg [.int .i64 0, .int .i64 0, .str [], .str [], .nils, .nils, .nils, .nils]) := by kernel_rfl
theorem ob32 : cfg.objT 32 = none := by kernel_rfl
theorem as32 : (aggO cfg.P 32).isSome = true := by kernel_rfl
theorem up33 : cfg.P.underlying 33 = some (.pointer 53) := by kernel_rfl
theorem ub4 : cfg.P.underlying 4 = some .bool := by kernel_rfl
theorem nm3 : (Tryd.f3.name == "runtime.NumGoroutine") = false := by kernel_rfl
theorem place_struct53 : oper.P_place cfg 53 = some (placeL [(0, 6), (6, 1), (7, 1)]) := placeL_of (by kernel_rfl)
theorem place_struct26 : oper.P_place cfg 26 = some (placeL [(0, 1), (1, 1), (2, 1), (3, 1), (4, 1), (5, 1)]) := placeL_of (by kernel_rfl)
theorem place_struct29 : oper.P_place cfg 29 = some (placeL [(0, 1), (1, 1), (2, 1)]) := placeL_of (by kernel_rfl)
theorem place_struct32 : oper.P_place cfg 32 = some (placeL [(0, 6), (6, 1), (7, 1)]) := placeL_of (by kernel_rfl)
/-- What is asked of the world and of the library. -/
structure PrOk (R : ObjR) : Prop where
  obj : ObjOkC R cfg
  strings_Trim_ok : ∀ (n : Nat) (x0 : Str) (x1 : Str) (r : Str), strings_Trim n x0 x1 = some r → SpecC R cfg.P 23 [(.str x0), (.str x1)] (.d (.str r))
  porticolaw17_CompRuns_ok : ∀ (n : Nat) (r : Bool), porticolaw17_CompRuns n = some r → SpecC R cfg.P 10 [] (.d (.bool r))
section
variable {R : ObjR} (E : PrOk R)
include E
theorem objR1 : ObjOkC R cfgR1 := ⟨E.obj.toObjOk, E.obj.new⟩
theorem objR2 : ObjOkC R cfgR2 := ⟨E.obj.toObjOk, E.obj.new⟩
set_option maxRecDepth 20000 in
set_option maxHeartbeats 4000000 in
theorem porticobook_Within_ok (n : Nat) (a1 : Int) (a2 : Int) (a3 : Int) (r : Int) (h : porticobook_Within n a1 a2 a3 = some r) : SpecC R cfg.P 5 [(.int .i64 a1), (.int .i64 a2), (.int .i64 a3)] (.d (.int .i64 r)) := by
  unfold porticobook_Within at h
  refine SpecC.of_wp E.obj.toObjOk (C := cfg) Tryd.func5 rfl nm5 rfl ?_
  have H0 : Has pureSt pureSt [] := Has.pure
  refine WpC.seq ?_
  refine WpC.region E.obj rfl ?_
  refine wpO.val rfl (oper_assign rfl) rfl ?_
  refine wpO.nil ?_
  refine WpC.seq ?_
  refine WpC.region E.obj rfl ?_
  refine wpO.val rfl (oper_move rfl) rfl ?_
  refine wpO.val rfl (oper_move rfl) rfl ?_
  refine wpO.val rfl (oper_move rfl) rfl ?_
  refine wpO.val rfl (oper_bin rfl rfl binD_sub) rfl ?_
  refine wpO.val rfl (oper_bin rfl rfl binD_add) rfl ?_
  obtain ⟨z4, hzz4, h⟩ := bind_some h
  refine wpO.val rfl (oper_bin rfl rfl (binD_remI hzz4)) rfl ?_
  refine wpO.val rfl (oper_assign rfl) rfl ?_
  refine wpO.nil ?_
  refine WpC.join (B := pureSt) (α := Int) (fun a => porticobook_Within_j8 a2 a = some r) (fun a => [(0, (.d (.int .i64 a))), (1, (.d (.int .i64 a2)))]) (fun a => []) ?_ ?_
  ·
    intro x7 S5 H6 h
    replace h : porticobook_Within_j8 a2 x7 = some r := h
    replace H6 : Has pureSt S5 [] := H6
    unfold porticobook_Within_j8 at h
    refine WpC.seq ?_
    refine WpC.region E.obj rfl ?_
    refine wpO.val rfl (oper_move rfl) rfl ?_
    refine wpO.val rfl (oper_move rfl) rfl ?_
    refine wpO.val rfl (oper_bin rfl rfl binD_add) rfl ?_
    refine wpO.val rfl (oper_assign rfl) rfl ?_
    refine wpO.nil ?_
    have hr := Option.some.inj h
    subst hr
    exact WpC.ret ⟨_, rfl, rfl, end1 (ArgsC.eq .nil)⟩
  ·
    refine WpC.seq ?_
    refine WpC.region E.obj rfl ?_
    refine wpO.val rfl (oper_move rfl) rfl ?_
    refine wpO.val rfl (oper_bin rfl rfl binD_lss) rfl ?_
    refine wpO.nil ?_
    refine WpC.cond rfl (fun hb9 => ?_) (fun hb9 => ?_)
    ·
      replace h := if_t hb9 h
      refine WpC.region E.obj rfl ?_
      refine wpO.val rfl (oper_move rfl) rfl ?_
      refine wpO.val rfl (oper_move rfl) rfl ?_
      refine wpO.val rfl (oper_bin rfl rfl binD_add) rfl ?_
      refine wpO.val rfl (oper_move rfl) rfl ?_
      refine wpO.val rfl (oper_bin rfl rfl binD_sub) rfl ?_
      refine wpO.val rfl (oper_bin rfl rfl binD_add) rfl ?_
      refine wpO.val rfl (oper_assign rfl) rfl ?_
      refine wpO.nil ?_
      exact ⟨(IntKind.wrap .i64 ((IntKind.wrap .i64 ((IntKind.wrap .i64 (z4 + a3)) - a2)) + 1)), _, _, pureSt, .refl _ _, .refl _, (WeakE.cons rfl (.refl _) (WeakE.cons rfl (.refl _) WeakE.nil)), H0.sel [] (by decide) rfl, h⟩
    ·
      replace h := if_f hb9 h
      refine WpC.skip ?_
      exact ⟨z4, _, _, pureSt, .refl _ _, .refl _, (WeakE.cons rfl (.refl _) (WeakE.cons rfl (.refl _) WeakE.nil)), H0.sel [] (by decide) rfl, h⟩
set_option maxRecDepth 20000 in
set_option maxHeartbeats 4000000 in
theorem comp_may_ok (n : Nat) (a1 : Int) (r : Bool) (h : comp_may n a1 = some r) : SpecC R cfg.P 16 [(.int .i64 a1)] (.d (.bool r)) := by
  unfold comp_may at h
  refine SpecC.of_wp E.obj.toObjOk (C := cfg) Tryd.func16 rfl nm16 rfl ?_
  have H0 : Has pureSt pureSt [] := Has.pure
  refine WpC.seq ?_
  refine WpC.region E.obj rfl ?_
  refine wpO.val rfl (oper_assign rfl) rfl ?_
  refine wpO.nil ?_
  refine WpC.seq ?_
  refine WpC.region E.obj rfl ?_
  refine wpO.val rfl (oper_move rfl) rfl ?_
  refine wpO.val rfl (oper_bin rfl rfl binD_geq) rfl ?_
  refine wpO.val rfl (oper_move rfl) rfl ?_
  refine wpO.groupV 3 8 (.d (.bool ((decide ((-1000) ≤ a1)) && (decide (a1 ≤ 1000))))) ?_ ?_
  ·
    rcases Bool.eq_false_or_eq_true ((decide ((-1000) ≤ a1))) with hB2 | hB2
    ·
      refine wpO.bool hB2 ?_
      refine wpO.val rfl (oper_move rfl) rfl ?_
      refine wpO.val rfl (oper_bin rfl rfl binD_leq) rfl ?_
      refine wpO.val rfl (oper_pick (b := true) rfl rfl) rfl ?_
      exact wpO.nil ⟨_, rfl, (WeakE.put (WeakE.push rfl (WeakE.push rfl (WeakE.put (.refl _) (Less.eq (by rw [hB2]))))) (Less.eq (by rw [hB2]; rw [Bool.true_and])))⟩
    ·
      refine wpO.bool hB2 ?_
      refine wpO.no rfl rfl ?_
      refine wpO.no rfl rfl ?_
      refine wpO.val rfl (oper_pick (b := false) rfl rfl) rfl ?_
      exact wpO.nil ⟨_, rfl, (WeakE.put (WeakE.push rfl (WeakE.push rfl (WeakE.put (.refl _) (Less.eq (by rw [hB2]))))) (Less.eq (by rw [hB2]; rw [Bool.false_and])))⟩
  ·
    refine wpO.val rfl (oper_assign rfl) rfl ?_
    refine wpO.nil ?_
    have hr := Option.some.inj h
    subst hr
    exact WpC.ret ⟨_, rfl, rfl, end1 (ArgsC.eq .nil)⟩
set_option maxRecDepth 20000 in
set_option maxHeartbeats 4000000 in
theorem slices_IndexFunc__int_int__ok (n : Nat) (S0 : St) (a1 : (List Int)) (fg3 : Nat) (fc4 : List AV) (p2 : Int → Option Bool) (hpp2 : ∀ S', Keeps S0 S' → S'.Wf → ∀ (y0 : Int) (r : Bool), p2 y0 = some r → SpecF R cfg.P fg3 ([.d (.int .i64 y0)] ++ fc4) S' (fun o => o = (none, .d (.bool r), S'))) (r : Int) (h : slices_IndexFunc__int_int_ n a1 p2 = some r) : SpecF R cfg.P 46 [.d (.sl ((a1).map (D.int .i64)) false), .fn fg3 fc4] S0 (fun o => o = (none, .d (.int .i64 r), S0)) := by
  unfold slices_IndexFunc__int_int_ at h
  refine SpecS.of_wp (C := cfg) Tryd.func46 rfl nm46 rfl (fun wf0 => ?_)
  have H0 : Has S0 S0 [] := Has.start wf0
  refine WpC.seq ?_
  refine WpC.region E.obj rfl ?_
  refine wpO.val rfl (oper_assign rfl) rfl ?_
  refine wpO.nil ?_
  refine WpC.seq ?_
  refine WpC.seq ?_
  refine WpC.region E.obj rfl ?_
  refine wpO.val rfl (oper_move rfl) rfl ?_
  refine wpO.val rfl (oper_lenL rfl es27) rfl ?_
  refine wpO.val rfl (oper_move rfl) rfl ?_
  refine wpO.nil ?_
  refine WpC.block ?_
  refine WpL.start (B := S0) (α := Int) (fun k a => slices_IndexFunc__int_int__l13 a1 p2 k a = some r) (fun a => [(0, (.d (.sl ((a1).map (D.int .i64)) false))), (1, (.fn fg3 fc4)), (7, (.d (.int .i64 ((a1).length : Int)))), (8, (.d (.int .i64 a)))]) (fun a => []) ?_ ?_ n ⟨0, _, _, S0, .refl _ _, .refl _, (WeakE.cons rfl (.refl _) (WeakE.cons rfl (.refl _) (WeakE.cons rfl (.refl _) (WeakE.cons rfl (.refl _) WeakE.nil)))), H0.sel [] (by decide) rfl, h⟩
  · intro a h; simp [slices_IndexFunc__int_int__l13] at h
  ·
    intro k13 x12 S10 H11 h
    replace h : slices_IndexFunc__int_int__l13 a1 p2 (k13 + 1) x12 = some r := h
    replace H11 : Has S0 S10 [] := H11
    unfold slices_IndexFunc__int_int__l13 at h
    refine WpC.seq ?_
    refine WpC.region E.obj rfl ?_
    refine wpO.val rfl (oper_bin rfl rfl binD_lss) rfl ?_
    refine wpO.nil ?_
    refine WpC.seq ?_
    refine WpC.cond rfl (fun hb14 => ?_) (fun hb14 => ?_)
    ·
      replace h := if_t hb14 h
      refine WpC.skip ?_
      refine WpC.seq ?_
      refine WpC.block ?_
      refine WpC.seq ?_
      refine WpC.region E.obj rfl ?_
      refine wpO.val rfl (oper_move rfl) rfl ?_
      refine wpO.val rfl (oper_assign rfl) rfl ?_
      refine wpO.nil ?_
      refine WpC.seq ?_
      refine WpC.region E.obj rfl ?_
      refine wpO.val rfl (oper_move rfl) rfl ?_
      refine wpO.val rfl (oper_move rfl) rfl ?_
      refine wpO.val rfl (oper_move rfl) rfl ?_
      obtain ⟨z15, hzz15, h⟩ := bind_some h
      refine wpO.val rfl (oper_idx rfl rfl (idxAddr (enc := (D.int .i64)) hzz15 el27 as3 (((fun _ => rfl) _).trans sz3.symm))) rfl ?_
      refine wpO.val rfl (oper_loadE rfl (partD_one ag3 rfl)) rfl ?_
      obtain ⟨z16, hzz16, h⟩ := bind_some h
      refine wpO.ret rfl (oper_callV rfl rfl) (hpp2 _ H11.keeps H11.wf _ _ hzz16) rfl ?_
      refine wpO.nil ?_
      refine WpC.cond rfl (fun hb17 => ?_) (fun hb17 => ?_)
      ·
        replace h := if_t hb17 h
        refine WpC.seq ?_
        refine WpC.region E.obj rfl ?_
        refine wpO.val rfl (oper_move rfl) rfl ?_
        refine wpO.val rfl (oper_assign rfl) rfl ?_
        refine wpO.nil ?_
        have hr := Option.some.inj h
        subst hr
        exact WpC.ret ⟨_, rfl, rfl, H11.keeps, end1 (ArgsC.eq .nil)⟩
      ·
        replace h := if_f hb17 h
        refine WpC.skip ?_
        refine WpC.region E.obj rfl ?_
        refine wpO.val rfl (oper_bin rfl rfl binD_add) rfl ?_
        refine wpO.val rfl (oper_move rfl) rfl ?_
        refine wpO.nil ?_
        exact ⟨(IntKind.wrap .i64 (x12 + 1)), _, _, S10, .refl _ _, .refl _, (WeakE.cons rfl (.refl _) (WeakE.cons rfl (.refl _) (WeakE.cons rfl (.refl _) (WeakE.cons rfl (.refl _) WeakE.nil)))), H11.sel [] (by decide) rfl, h⟩
    ·
      replace h := if_f hb14 h
      refine WpC.exit ?_
      refine WpC.seq ?_
      refine WpC.region E.obj rfl ?_
      refine wpO.val rfl (oper_assign rfl) rfl ?_
      refine wpO.nil ?_
      have hr := Option.some.inj h
      subst hr
      exact WpC.ret ⟨_, rfl, rfl, H11.keeps, end1 (ArgsC.eq .nil)⟩
set_option maxRecDepth 20000 in
set_option maxHeartbeats 4000000 in
theorem slices_ContainsFunc__int_int__ok (n : Nat) (S0 : St) (a1 : (List Int)) (fg3 : Nat) (fc4 : List AV) (p2 : Int → Option Bool) (hpp2 : ∀ S', Keeps S0 S' → S'.Wf → ∀ (y0 : Int) (r : Bool), p2 y0 = some r → SpecF R cfg.P fg3 ([.d (.int .i64 y0)] ++ fc4) S' (fun o => o = (none, .d (.bool r), S'))) (r : Bool) (h : slices_ContainsFunc__int_int_ n a1 p2 = some r) : SpecF R cfg.P 32 [.d (.sl ((a1).map (D.int .i64)) false), .fn fg3 fc4] S0 (fun o => o = (none, .d (.bool r), S0)) := by
  unfold slices_ContainsFunc__int_int_ at h
  refine SpecS.of_wp (C := cfg) Tryd.func32 rfl nm32 rfl (fun wf0 => ?_)
  have H0 : Has S0 S0 [] := Has.start wf0
  refine WpC.seq ?_
  refine WpC.region E.obj rfl ?_
  refine wpO.val rfl (oper_assign rfl) rfl ?_
  refine wpO.nil ?_
  refine WpC.seq ?_
  refine WpC.region E.obj rfl ?_
  refine wpO.val rfl (oper_move rfl) rfl ?_
  refine wpO.val rfl (oper_move rfl) rfl ?_
  obtain ⟨z6, hzz6, h⟩ := bind_some h
  refine wpO.ret rfl (oper_callF rfl rfl) (SpecF.argsL (slices_IndexFunc__int_int__ok E n S0 _ _ _ p2 (fun S' hk hw y5 r hr => hpp2 S' (H0.keeps.trans hk) hw y5 r hr) _ hzz6) (.cons (.refl _) (.cons (.refl _) .nil))) rfl ?_
  refine wpO.val rfl (oper_bin rfl rfl binD_geq) rfl ?_
  refine wpO.val rfl (oper_assign rfl) rfl ?_
  refine wpO.nil ?_
  have hr := Option.some.inj h
  subst hr
  exact WpC.ret ⟨_, rfl, rfl, H0.keeps, end1 (ArgsC.eq .nil)⟩
set_option maxRecDepth 20000 in
set_option maxHeartbeats 4000000 in
theorem comp_all_1_ok (n : Nat) (a1 : Int) (r : Bool) (h : comp_all_1 n a1 = some r) : SpecC R cfg.P 33 [(.int .i64 a1)] (.d (.bool r)) := by
  unfold comp_all_1 at h
  refine SpecC.of_wp E.obj.toObjOk (C := cfg) Tryd.func33 rfl nm33 rfl ?_
  have H0 : Has pureSt pureSt [] := Has.pure
  refine WpC.seq ?_
  refine WpC.region E.obj rfl ?_
  refine wpO.val rfl (oper_assign rfl) rfl ?_
  refine wpO.nil ?_
  refine WpC.seq ?_
  refine WpC.region E.obj rfl ?_
  refine wpO.val rfl (oper_move rfl) rfl ?_
  obtain ⟨z2, hzz2, h⟩ := bind_some h
  refine wpO.ret rfl (oper_callF rfl rfl) (comp_may_ok E _ _ _ hzz2 _ _ (ArgsC.eq .nil)) rfl ?_
  refine wpO.val rfl (oper_not rfl) rfl ?_
  refine wpO.val rfl (oper_assign rfl) rfl ?_
  refine wpO.nil ?_
  have hr := Option.some.inj h
  subst hr
  exact WpC.ret ⟨_, rfl, rfl, end1 (ArgsC.eq .nil)⟩
set_option maxRecDepth 20000 in
set_option maxHeartbeats 4000000 in
theorem comp_all_ok (n : Nat) (a1 : (List Int)) (r : Bool) (h : comp_all n a1 = some r) : SpecC R cfg.P 21 [(.sl ((a1).map (D.int .i64)) false)] (.d (.bool r)) := by
  unfold comp_all at h
  refine SpecC.of_wp E.obj.toObjOk (C := cfg) Tryd.func21 rfl nm21 rfl ?_
  have H0 : Has pureSt pureSt [] := Has.pure
  refine WpC.seq ?_
  refine WpC.region E.obj rfl ?_
  refine wpO.val rfl (oper_assign rfl) rfl ?_
  refine wpO.nil ?_
  refine WpC.seq ?_
  refine WpC.region E.obj rfl ?_
  refine wpO.val rfl (oper_move rfl) rfl ?_
  obtain ⟨z3, hzz3, h⟩ := bind_some h
  refine wpO.ret rfl (oper_callF rfl rfl) (SpecF.argsL (slices_ContainsFunc__int_int__ok E n pureSt _ _ _ (fun y2 => comp_all_1 n y2) (fun S' hk hw y2 r hr => comp_all_1_ok E n y2 r hr _ S' (ArgsC.eq .nil)) _ hzz3) (.cons (.refl _) (.cons (.refl _) .nil))) rfl ?_
  refine wpO.val rfl (oper_not rfl) rfl ?_
  refine wpO.val rfl (oper_assign rfl) rfl ?_
  refine wpO.nil ?_
  have hr := Option.some.inj h
  subst hr
  exact WpC.ret ⟨_, rfl, rfl, end1 (ArgsC.eq .nil)⟩
set_option maxRecDepth 20000 in
set_option maxHeartbeats 4000000 in
theorem page_count_ok : ∀ (n : Nat) (a1 : Tpl) (r : (Int × Int)), page_count n a1 = some r → SpecC R cfg.P 34 [(encTpl a1)] (.tup [.d (.int .i64 r.1), .d (.int .i64 r.2)])
  | 0, a1, r, h => by simp [page_count] at h
  | n + 1, a1, r, h => by
    have ih := page_count_ok n
    unfold page_count at h
    refine SpecC.of_wp E.obj.toObjOk (C := cfg) Tryd.func34 rfl nm34 rfl ?_
    have H0 : Has pureSt pureSt [] := Has.pure
    refine WpC.seq ?_
    refine WpC.region E.obj rfl ?_
    refine wpO.box H0 rfl rfl rfl (Tpl.cellsA _) rfl (fun b2 S3 H4 => ?_)
    refine wpO.val rfl (oper_assign rfl) rfl ?_
    refine wpO.val rfl (oper_assign rfl) rfl ?_
    refine wpO.nil ?_
    refine WpC.seq ?_
    refine WpC.region E.obj rfl ?_
    refine wpO.val rfl (oper_assign rfl) rfl ?_
    refine wpO.val rfl (oper_assign rfl) rfl ?_
    refine wpO.nil ?_
    refine WpC.seq ?_
    refine WpC.seq ?_
    refine WpC.region E.obj rfl ?_
    refine wpO.val rfl (oper_fieldAddr rfl fo26_5 nz24 rfl) rfl ?_
    refine wpO.val rfl (oper_load H4 (i := 0) rfl rfl (part_one ag24 rfl)) rfl ?_
    refine wpO.val rfl (oper_lenL rfl es24) rfl ?_
    refine wpO.val rfl (oper_move rfl) rfl ?_
    refine wpO.nil ?_
    refine WpC.block ?_
    refine WpL.start (B := pureSt) (α := Int × Int × Int) (fun k a => page_count_l17 (page_count n) a1 k a.1 a.2.1 a.2.2 = some r) (fun a => [(4, (.d (.int .i64 a.1))), (5, (.d (.int .i64 a.2.1))), (11, (.d (.sl ((a1.Kids).map encTpl) false))), (12, (.d (.int .i64 ((a1.Kids).length : Int)))), (13, (.d (.int .i64 a.2.2)))]) (fun a => []) ?_ ?_ n ⟨⟨1, 0, 0⟩, _, _, S3, .refl _ _, .refl _, (WeakE.cons rfl (.refl _) (WeakE.cons rfl (.refl _) (WeakE.cons rfl (.refl _) (WeakE.cons rfl (.refl _) (WeakE.cons rfl (.refl _) WeakE.nil))))), H4.sel [] (by decide) rfl, h⟩
    · intro a h; simp [page_count_l17] at h
    ·
      intro k17 a S12 H13 h
      obtain ⟨x14, x15, x16⟩ := a
      replace h : page_count_l17 (page_count n) a1 (k17 + 1) x14 x15 x16 = some r := h
      replace H13 : Has pureSt S12 [] := H13
      unfold page_count_l17 at h
      refine WpC.seq ?_
      refine WpC.region E.obj rfl ?_
      refine wpO.val rfl (oper_bin rfl rfl binD_lss) rfl ?_
      refine wpO.nil ?_
      refine WpC.seq ?_
      refine WpC.cond rfl (fun hb18 => ?_) (fun hb18 => ?_)
      ·
        replace h := if_t hb18 h
        refine WpC.skip ?_
        refine WpC.seq ?_
        refine WpC.block ?_
        refine WpC.seq ?_
        refine WpC.region E.obj rfl ?_
        obtain ⟨z19, hzz19, h⟩ := bind_some h
        refine wpO.val rfl (oper_idx rfl rfl (idxAddr (enc := encTpl) hzz19 el24 as26 ((Tpl.len _).trans sz26.symm))) rfl ?_
        refine wpO.val rfl (oper_loadE rfl (Tpl.partW ag26 sz26)) rfl ?_
        refine wpO.alloc H13 rfl ob26 zo26 rfl rfl (fun b20 S21 H22 => ?_)
        refine wpO.store H22 (i := 0) rfl rfl rfl rfl (Tpl.cellsA _) rfl sz26 rfl as26 rfl rfl rfl (fun S23 H24 => ?_)
        refine wpO.nil ?_
        refine WpC.seq ?_
        refine WpC.region E.obj rfl ?_
        refine wpO.val rfl (oper_load H24 (i := 0) rfl rfl (part_agg ag26 sz26 rfl)) rfl ?_
        refine wpO.less (Less.agg' (d := encTpl z19) (CellsC.eq rfl (CellsC.eq rfl (CellsC.eq rfl (CellsC.eq rfl (CellsC.eq rfl (CellsC.eq rfl .nil)))))) ((Tpl.eq _).trans rfl)) ?_
        obtain ⟨z25, hzz25, h⟩ := bind_some h
        refine wpO.ret rfl (oper_callF rfl rfl) (ih _ _ hzz25 _ _ (ArgsC.eq .nil)) rfl ?_
        refine wpO.val rfl (oper_move rfl) rfl ?_
        refine wpO.val rfl (oper_extract rfl rfl) rfl ?_
        refine wpO.val rfl (oper_extract rfl rfl) rfl ?_
        refine wpO.val rfl (oper_assign rfl) rfl ?_
        refine wpO.val rfl (oper_assign rfl) rfl ?_
        refine wpO.nil ?_
        refine WpC.region E.obj rfl ?_
        refine wpO.val rfl (oper_move rfl) rfl ?_
        refine wpO.val rfl (oper_move rfl) rfl ?_
        refine wpO.val rfl (oper_bin rfl rfl binD_add) rfl ?_
        refine wpO.val rfl (oper_move rfl) rfl ?_
        refine wpO.val rfl (oper_move rfl) rfl ?_
        refine wpO.val rfl (oper_max rfl rfl) rfl ?_
        refine wpO.val rfl (oper_assign rfl) rfl ?_
        refine wpO.val rfl (oper_assign rfl) rfl ?_
        refine wpO.nil ?_
        refine WpC.region E.obj rfl ?_
        refine wpO.val rfl (oper_bin rfl rfl binD_add) rfl ?_
        refine wpO.val rfl (oper_move rfl) rfl ?_
        refine wpO.nil ?_
        exact ⟨⟨(IntKind.wrap .i64 (x14 + z25.1)), (maxI x15 z25.2), (IntKind.wrap .i64 (x16 + 1))⟩, _, _, S23, .refl _ _, .refl _, (WeakE.cons rfl (.refl _) (WeakE.cons rfl (.refl _) (WeakE.cons rfl (.refl _) (WeakE.cons rfl (.refl _) (WeakE.cons rfl (.refl _) WeakE.nil))))), H24.sel [] (by decide) rfl, h⟩
      ·
        replace h := if_f hb18 h
        refine WpC.exit ?_
        refine WpC.seq ?_
        refine WpC.region E.obj rfl ?_
        refine wpO.val rfl (oper_move rfl) rfl ?_
        refine wpO.val rfl (oper_move rfl) rfl ?_
        refine wpO.val rfl (oper_bin rfl rfl binD_add) rfl ?_
        refine wpO.val rfl (oper_assign rfl) rfl ?_
        refine wpO.val rfl (oper_assign rfl) rfl ?_
        refine wpO.nil ?_
        have hr := Option.some.inj h
        subst hr
        exact WpC.ret ⟨_, rfl, rfl, endN (vs := [(.d (.int .i64 x14)), (.d (.int .i64 (IntKind.wrap .i64 (x15 + 1))))]) (ds := [(.int .i64 x14), (.int .i64 (IntKind.wrap .i64 (x15 + 1)))]) (ArgsC.eq (ArgsC.eq .nil))⟩
set_option maxRecDepth 20000 in
set_option maxHeartbeats 4000000 in
theorem page_right_ok : ∀ (n : Nat) (a1 : Tpl) (a2 : Int) (a3 : Bool) (r : Bool), page_right n a1 a2 a3 = some r → SpecC R cfg.P 35 [(encTpl a1), (.int .i64 a2), (.bool a3)] (.d (.bool r))
  | 0, a1, a2, a3, r, h => by simp [page_right] at h
  | n + 1, a1, a2, a3, r, h => by
    have ih := page_right_ok n
    unfold page_right at h
    refine SpecC.of_wp E.obj.toObjOk (C := cfg) Tryd.func35 rfl nm35 rfl ?_
    have H0 : Has pureSt pureSt [] := Has.pure
    refine WpC.seq ?_
    refine WpC.region E.obj rfl ?_
    refine wpO.box H0 rfl rfl rfl (Tpl.cellsA _) rfl (fun b4 S5 H6 => ?_)
    refine wpO.val rfl (oper_assign rfl) rfl ?_
    refine wpO.nil ?_
    refine WpC.seq ?_
    refine WpC.region E.obj rfl ?_
    refine wpO.val rfl (oper_fieldAddr rfl fo26_1 nz3 rfl) rfl ?_
    refine wpO.val rfl (oper_load H6 (i := 0) rfl rfl (part_one ag3 rfl)) rfl ?_
    refine wpO.val rfl (oper_bin rfl rfl binD_geq) rfl ?_
    refine wpO.val rfl (oper_move rfl) rfl ?_
    refine wpO.groupV 5 19 (.d (.bool ((decide (0 ≤ a1.N)) && (decide (a1.N < a2))))) ?_ ?_
    ·
      rcases Bool.eq_false_or_eq_true ((decide (0 ≤ a1.N))) with hB7 | hB7
      ·
        refine wpO.bool hB7 ?_
        refine wpO.val rfl (oper_fieldAddr rfl fo26_1 nz3 rfl) rfl ?_
        refine wpO.val rfl (oper_load H6 (i := 0) rfl rfl (part_one ag3 rfl)) rfl ?_
        refine wpO.val rfl (oper_move rfl) rfl ?_
        refine wpO.val rfl (oper_bin rfl rfl binD_lss) rfl ?_
        refine wpO.val rfl (oper_pick (b := true) rfl rfl) rfl ?_
        exact wpO.nil ⟨_, rfl, (WeakE.put (WeakE.push rfl (WeakE.push rfl (WeakE.push rfl (WeakE.push rfl (WeakE.put (.refl _) (Less.eq (by rw [hB7]))))))) (Less.eq (by rw [hB7]; rw [Bool.true_and])))⟩
      ·
        refine wpO.bool hB7 ?_
        refine wpO.no rfl rfl ?_
        refine wpO.no rfl rfl ?_
        refine wpO.no rfl rfl ?_
        refine wpO.no rfl rfl ?_
        refine wpO.val rfl (oper_pick (b := false) rfl rfl) rfl ?_
        exact wpO.nil ⟨_, rfl, (WeakE.put (WeakE.push rfl (WeakE.push rfl (WeakE.push rfl (WeakE.push rfl (WeakE.put (.refl _) (Less.eq (by rw [hB7]))))))) (Less.eq (by rw [hB7]; rw [Bool.false_and])))⟩
    ·
      refine wpO.val rfl (oper_assign rfl) rfl ?_
      refine wpO.nil ?_
      refine WpC.seq ?_
      refine WpC.region E.obj rfl ?_
      refine wpO.val rfl (oper_fieldAddr rfl fo26_0 nz3 rfl) rfl ?_
      refine wpO.val rfl (oper_load H6 (i := 0) rfl rfl (part_one ag3 rfl)) rfl ?_
      refine wpO.val rfl (oper_bin rfl rfl binD_eql) rfl ?_
      refine wpO.val rfl (oper_move rfl) rfl ?_
      refine wpO.groupV 4 27 (.d (.bool ((a1.Kind == 1) || (a1.Kind == 5)))) ?_ ?_
      ·
        rcases Bool.eq_false_or_eq_true ((a1.Kind == 1)) with hB8 | hB8
        ·
          refine wpO.bool hB8 ?_
          refine wpO.no rfl rfl ?_
          refine wpO.no rfl rfl ?_
          refine wpO.no rfl rfl ?_
          refine wpO.val rfl (oper_pick (b := true) rfl rfl) rfl ?_
          exact wpO.nil ⟨_, rfl, (WeakE.put (WeakE.push rfl (WeakE.push rfl (WeakE.push rfl (WeakE.put (.refl _) (Less.eq (by rw [hB8])))))) (Less.eq (by rw [hB8]; rw [Bool.true_or])))⟩
        ·
          refine wpO.bool hB8 ?_
          refine wpO.val rfl (oper_fieldAddr rfl fo26_0 nz3 rfl) rfl ?_
          refine wpO.val rfl (oper_load H6 (i := 0) rfl rfl (part_one ag3 rfl)) rfl ?_
          refine wpO.val rfl (oper_bin rfl rfl binD_eql) rfl ?_
          refine wpO.val rfl (oper_pick (b := false) rfl rfl) rfl ?_
          exact wpO.nil ⟨_, rfl, (WeakE.put (WeakE.push rfl (WeakE.push rfl (WeakE.push rfl (WeakE.put (.refl _) (Less.eq (by rw [hB8])))))) (Less.eq (by rw [hB8]; rw [Bool.false_or])))⟩
      ·
        refine wpO.val rfl (oper_move rfl) rfl ?_
        refine wpO.groupV 4 32 (.d (.bool (((a1.Kind == 1) || (a1.Kind == 5)) || (a1.Kind == 6)))) ?_ ?_
        ·
          rcases Bool.eq_false_or_eq_true (((a1.Kind == 1) || (a1.Kind == 5))) with hB9 | hB9
          ·
            refine wpO.bool hB9 ?_
            refine wpO.no rfl rfl ?_
            refine wpO.no rfl rfl ?_
            refine wpO.no rfl rfl ?_
            refine wpO.val rfl (oper_pick (b := true) rfl rfl) rfl ?_
            exact wpO.nil ⟨_, rfl, (WeakE.put (WeakE.push rfl (WeakE.push rfl (WeakE.push rfl (WeakE.put (.refl _) (Less.eq (by rw [hB9])))))) (Less.eq (by rw [hB9]; rw [Bool.true_or])))⟩
          ·
            refine wpO.bool hB9 ?_
            refine wpO.val rfl (oper_fieldAddr rfl fo26_0 nz3 rfl) rfl ?_
            refine wpO.val rfl (oper_load H6 (i := 0) rfl rfl (part_one ag3 rfl)) rfl ?_
            refine wpO.val rfl (oper_bin rfl rfl binD_eql) rfl ?_
            refine wpO.val rfl (oper_pick (b := false) rfl rfl) rfl ?_
            exact wpO.nil ⟨_, rfl, (WeakE.put (WeakE.push rfl (WeakE.push rfl (WeakE.push rfl (WeakE.put (.refl _) (Less.eq (by rw [hB9])))))) (Less.eq (by rw [hB9]; rw [Bool.false_or])))⟩
        ·
          refine wpO.val rfl (oper_assign rfl) rfl ?_
          refine wpO.nil ?_
          refine WpC.seq ?_
          refine WpC.block ?_
          refine WpC.seq ?_
          refine WpC.region E.obj rfl ?_
          refine wpO.val rfl (oper_fieldAddr rfl fo26_0 nz3 rfl) rfl ?_
          refine wpO.val rfl (oper_load H6 (i := 0) rfl rfl (part_one ag3 rfl)) rfl ?_
          refine wpO.val rfl (oper_bin rfl rfl binD_lss) rfl ?_
          refine wpO.val rfl (oper_move rfl) rfl ?_
          refine wpO.groupV 4 41 (.d (.bool ((decide (a1.Kind < 1)) || (decide (7 < a1.Kind))))) ?_ ?_
          ·
            rcases Bool.eq_false_or_eq_true ((decide (a1.Kind < 1))) with hB10 | hB10
            ·
              refine wpO.bool hB10 ?_
              refine wpO.no rfl rfl ?_
              refine wpO.no rfl rfl ?_
              refine wpO.no rfl rfl ?_
              refine wpO.val rfl (oper_pick (b := true) rfl rfl) rfl ?_
              exact wpO.nil ⟨_, rfl, (WeakE.put (WeakE.push rfl (WeakE.push rfl (WeakE.push rfl (WeakE.put (.refl _) (Less.eq (by rw [hB10])))))) (Less.eq (by rw [hB10]; rw [Bool.true_or])))⟩
            ·
              refine wpO.bool hB10 ?_
              refine wpO.val rfl (oper_fieldAddr rfl fo26_0 nz3 rfl) rfl ?_
              refine wpO.val rfl (oper_load H6 (i := 0) rfl rfl (part_one ag3 rfl)) rfl ?_
              refine wpO.val rfl (oper_bin rfl rfl binD_gtr) rfl ?_
              refine wpO.val rfl (oper_pick (b := false) rfl rfl) rfl ?_
              exact wpO.nil ⟨_, rfl, (WeakE.put (WeakE.push rfl (WeakE.push rfl (WeakE.push rfl (WeakE.put (.refl _) (Less.eq (by rw [hB10])))))) (Less.eq (by rw [hB10]; rw [Bool.false_or])))⟩
          ·
            refine wpO.val rfl (oper_move rfl) rfl ?_
            refine wpO.groupV 9 51 (.d (.bool (((decide (a1.Kind < 1)) || (decide (7 < a1.Kind))) || ((!(((a1.Kind == 1) || (a1.Kind == 5)) || (a1.Kind == 6))) && (decide (0 < ((a1.Kids).length : Int))))))) ?_ ?_
            ·
              rcases Bool.eq_false_or_eq_true (((decide (a1.Kind < 1)) || (decide (7 < a1.Kind)))) with hB11 | hB11
              ·
                refine wpO.bool hB11 ?_
                refine wpO.no rfl rfl ?_
                refine wpO.no rfl rfl ?_
                refine wpO.no rfl rfl ?_
                refine wpO.no rfl rfl ?_
                refine wpO.no rfl rfl ?_
                refine wpO.no rfl rfl ?_
                refine wpO.no rfl rfl ?_
                refine wpO.no rfl rfl ?_
                refine wpO.val rfl (oper_pick (b := true) rfl rfl) rfl ?_
                exact wpO.nil ⟨_, rfl, (WeakE.put (WeakE.push rfl (WeakE.push rfl (WeakE.push rfl (WeakE.push rfl (WeakE.push rfl (WeakE.push rfl (WeakE.push rfl (WeakE.push rfl (WeakE.put (.refl _) (Less.eq (by rw [hB11]))))))))))) (Less.eq (by rw [hB11]; rw [Bool.true_or])))⟩
              ·
                refine wpO.bool hB11 ?_
                refine wpO.val rfl (oper_move rfl) rfl ?_
                refine wpO.val rfl (oper_not rfl) rfl ?_
                refine wpO.val rfl (oper_move rfl) rfl ?_
                refine wpO.groupV 5 50 (.d (.bool ((!(((a1.Kind == 1) || (a1.Kind == 5)) || (a1.Kind == 6))) && (decide (0 < ((a1.Kids).length : Int)))))) ?_ ?_
                ·
                  rcases Bool.eq_false_or_eq_true ((!(((a1.Kind == 1) || (a1.Kind == 5)) || (a1.Kind == 6)))) with hB12 | hB12
                  ·
                    refine wpO.bool hB12 ?_
                    refine wpO.val rfl (oper_fieldAddr rfl fo26_5 nz24 rfl) rfl ?_
                    refine wpO.val rfl (oper_load H6 (i := 0) rfl rfl (part_one ag24 rfl)) rfl ?_
                    refine wpO.val rfl (oper_lenL rfl es24) rfl ?_
                    refine wpO.val rfl (oper_bin rfl rfl binD_gtr) rfl ?_
                    refine wpO.val rfl (oper_pick (b := true) rfl rfl) rfl ?_
                    exact wpO.nil ⟨_, rfl, (WeakE.put (WeakE.push rfl (WeakE.push rfl (WeakE.push rfl (WeakE.push rfl (WeakE.put (.refl _) (Less.eq (by rw [hB12]))))))) (Less.eq (by rw [hB12]; rw [Bool.true_and])))⟩
                  ·
                    refine wpO.bool hB12 ?_
                    refine wpO.no rfl rfl ?_
                    refine wpO.no rfl rfl ?_
                    refine wpO.no rfl rfl ?_
                    refine wpO.no rfl rfl ?_
                    refine wpO.val rfl (oper_pick (b := false) rfl rfl) rfl ?_
                    exact wpO.nil ⟨_, rfl, (WeakE.put (WeakE.push rfl (WeakE.push rfl (WeakE.push rfl (WeakE.push rfl (WeakE.put (.refl _) (Less.eq (by rw [hB12]))))))) (Less.eq (by rw [hB12]; rw [Bool.false_and])))⟩
                ·
                  refine wpO.val rfl (oper_pick (b := false) rfl rfl) rfl ?_
                  exact wpO.nil ⟨_, rfl, (WeakE.put (WeakE.push rfl (WeakE.push rfl (WeakE.push rfl (WeakE.push rfl (WeakE.put (.refl _) (Less.eq (by rw [hB11]))))))) (Less.eq (by rw [hB11]; rw [Bool.false_or])))⟩
            ·
              refine wpO.val rfl (oper_assign rfl) rfl ?_
              refine wpO.nil ?_
              refine WpC.cond rfl (fun hb13 => ?_) (fun hb13 => ?_)
              ·
                replace h := if_t hb13 h
                refine WpC.seq ?_
                refine WpC.region E.obj rfl ?_
                refine wpO.val rfl (oper_assign rfl) rfl ?_
                refine wpO.nil ?_
                have hr := Option.some.inj h
                subst hr
                exact WpC.ret ⟨_, rfl, rfl, end1 (ArgsC.eq .nil)⟩
              ·
                replace h := if_f hb13 h
                refine WpC.join (B := pureSt) (α := Bool) (fun a => page_right_j17 n (page_right n) a1 a2 a3 a = some r) (fun a => [(1, (.d (.int .i64 a2))), (2, (.d (.bool a3))), (3, (.ptr b4 0 0)), (7, (.d (.bool ((decide (0 ≤ a1.N)) && (decide (a1.N < a2)))))), (52, (.d (.bool a)))]) (fun a => [.box b4 [(.d (.int .i64 a1.Kind)), (.d (.int .i64 a1.N)), (.d (.str a1.Tag)), (.d (.str a1.Text)), (.d (.sl ((a1.Attrs).map encAttr) false)), (.d (.sl ((a1.Kids).map encTpl) false))]]) ?_ ?_
                ·
                  intro x16 S14 H15 h
                  replace h : page_right_j17 n (page_right n) a1 a2 a3 x16 = some r := h
                  replace H15 : Has pureSt S14 [.box b4 [(.d (.int .i64 a1.Kind)), (.d (.int .i64 a1.N)), (.d (.str a1.Tag)), (.d (.str a1.Text)), (.d (.sl ((a1.Attrs).map encAttr) false)), (.d (.sl ((a1.Kids).map encTpl) false))]] := H15
                  unfold page_right_j17 at h
                  refine WpC.cond rfl (fun hb18 => ?_) (fun hb18 => ?_)
                  ·
                    replace h := if_t hb18 h
                    refine WpC.seq ?_
                    refine WpC.region E.obj rfl ?_
                    refine wpO.val rfl (oper_assign rfl) rfl ?_
                    refine wpO.nil ?_
                    have hr := Option.some.inj h
                    subst hr
                    exact WpC.ret ⟨_, rfl, rfl, end1 (ArgsC.eq .nil)⟩
                  ·
                    replace h := if_f hb18 h
                    refine WpC.seq ?_
                    refine WpC.region E.obj rfl ?_
                    refine wpO.val rfl (oper_fieldAddr rfl fo26_0 nz3 rfl) rfl ?_
                    refine wpO.val rfl (oper_load H15 (i := 0) rfl rfl (part_one ag3 rfl)) rfl ?_
                    refine wpO.val rfl (oper_bin rfl rfl binD_eql) rfl ?_
                    refine wpO.val rfl (oper_move rfl) rfl ?_
                    refine wpO.groupV 4 70 (.d (.bool ((a1.Kind == 3) || (a1.Kind == 5)))) ?_ ?_
                    ·
                      rcases Bool.eq_false_or_eq_true ((a1.Kind == 3)) with hB19 | hB19
                      ·
                        refine wpO.bool hB19 ?_
                        refine wpO.no rfl rfl ?_
                        refine wpO.no rfl rfl ?_
                        refine wpO.no rfl rfl ?_
                        refine wpO.val rfl (oper_pick (b := true) rfl rfl) rfl ?_
                        exact wpO.nil ⟨_, rfl, (WeakE.put (WeakE.push rfl (WeakE.push rfl (WeakE.push rfl (WeakE.put (.refl _) (Less.eq (by rw [hB19])))))) (Less.eq (by rw [hB19]; rw [Bool.true_or])))⟩
                      ·
                        refine wpO.bool hB19 ?_
                        refine wpO.val rfl (oper_fieldAddr rfl fo26_0 nz3 rfl) rfl ?_
                        refine wpO.val rfl (oper_load H15 (i := 0) rfl rfl (part_one ag3 rfl)) rfl ?_
                        refine wpO.val rfl (oper_bin rfl rfl binD_eql) rfl ?_
                        refine wpO.val rfl (oper_pick (b := false) rfl rfl) rfl ?_
                        exact wpO.nil ⟨_, rfl, (WeakE.put (WeakE.push rfl (WeakE.push rfl (WeakE.push rfl (WeakE.put (.refl _) (Less.eq (by rw [hB19])))))) (Less.eq (by rw [hB19]; rw [Bool.false_or])))⟩
                    ·
                      refine wpO.val rfl (oper_move rfl) rfl ?_
                      refine wpO.groupV 4 75 (.d (.bool (((a1.Kind == 3) || (a1.Kind == 5)) || (a1.Kind == 6)))) ?_ ?_
                      ·
                        rcases Bool.eq_false_or_eq_true (((a1.Kind == 3) || (a1.Kind == 5))) with hB20 | hB20
                        ·
                          refine wpO.bool hB20 ?_
                          refine wpO.no rfl rfl ?_
                          refine wpO.no rfl rfl ?_
                          refine wpO.no rfl rfl ?_
                          refine wpO.val rfl (oper_pick (b := true) rfl rfl) rfl ?_
                          exact wpO.nil ⟨_, rfl, (WeakE.put (WeakE.push rfl (WeakE.push rfl (WeakE.push rfl (WeakE.put (.refl _) (Less.eq (by rw [hB20])))))) (Less.eq (by rw [hB20]; rw [Bool.true_or])))⟩
                        ·
                          refine wpO.bool hB20 ?_
                          refine wpO.val rfl (oper_fieldAddr rfl fo26_0 nz3 rfl) rfl ?_
                          refine wpO.val rfl (oper_load H15 (i := 0) rfl rfl (part_one ag3 rfl)) rfl ?_
                          refine wpO.val rfl (oper_bin rfl rfl binD_eql) rfl ?_
                          refine wpO.val rfl (oper_pick (b := false) rfl rfl) rfl ?_
                          exact wpO.nil ⟨_, rfl, (WeakE.put (WeakE.push rfl (WeakE.push rfl (WeakE.push rfl (WeakE.put (.refl _) (Less.eq (by rw [hB20])))))) (Less.eq (by rw [hB20]; rw [Bool.false_or])))⟩
                      ·
                        refine wpO.val rfl (oper_move rfl) rfl ?_
                        refine wpO.groupV 3 79 (.d (.bool ((((a1.Kind == 3) || (a1.Kind == 5)) || (a1.Kind == 6)) && (!((decide (0 ≤ a1.N)) && (decide (a1.N < a2))))))) ?_ ?_
                        ·
                          rcases Bool.eq_false_or_eq_true ((((a1.Kind == 3) || (a1.Kind == 5)) || (a1.Kind == 6))) with hB21 | hB21
                          ·
                            refine wpO.bool hB21 ?_
                            refine wpO.val rfl (oper_move rfl) rfl ?_
                            refine wpO.val rfl (oper_not rfl) rfl ?_
                            refine wpO.val rfl (oper_pick (b := true) rfl rfl) rfl ?_
                            exact wpO.nil ⟨_, rfl, (WeakE.put (WeakE.push rfl (WeakE.push rfl (WeakE.put (.refl _) (Less.eq (by rw [hB21]))))) (Less.eq (by rw [hB21]; rw [Bool.true_and])))⟩
                          ·
                            refine wpO.bool hB21 ?_
                            refine wpO.no rfl rfl ?_
                            refine wpO.no rfl rfl ?_
                            refine wpO.val rfl (oper_pick (b := false) rfl rfl) rfl ?_
                            exact wpO.nil ⟨_, rfl, (WeakE.put (WeakE.push rfl (WeakE.push rfl (WeakE.put (.refl _) (Less.eq (by rw [hB21]))))) (Less.eq (by rw [hB21]; rw [Bool.false_and])))⟩
                        ·
                          refine wpO.val rfl (oper_assign rfl) rfl ?_
                          refine wpO.nil ?_
                          refine WpC.cond rfl (fun hb22 => ?_) (fun hb22 => ?_)
                          ·
                            replace h := if_t hb22 h
                            refine WpC.seq ?_
                            refine WpC.region E.obj rfl ?_
                            refine wpO.val rfl (oper_assign rfl) rfl ?_
                            refine wpO.nil ?_
                            have hr := Option.some.inj h
                            subst hr
                            exact WpC.ret ⟨_, rfl, rfl, end1 (ArgsC.eq .nil)⟩
                          ·
                            replace h := if_f hb22 h
                            refine WpC.skip ?_
                            refine WpC.seq ?_
                            refine WpC.region E.obj rfl ?_
                            refine wpO.val rfl (oper_move rfl) rfl ?_
                            refine wpO.val rfl (oper_move rfl) rfl ?_
                            refine wpO.groupV 4 85 (.d (.bool (a3 || (a1.Kind == 5)))) ?_ ?_
                            ·
                              rcases Bool.eq_false_or_eq_true (a3) with hB23 | hB23
                              ·
                                refine wpO.bool hB23 ?_
                                refine wpO.no rfl rfl ?_
                                refine wpO.no rfl rfl ?_
                                refine wpO.no rfl rfl ?_
                                refine wpO.val rfl (oper_pick (b := true) rfl rfl) rfl ?_
                                exact wpO.nil ⟨_, rfl, (WeakE.put (WeakE.push rfl (WeakE.push rfl (WeakE.push rfl (WeakE.put (.refl _) (Less.eq (by rw [hB23])))))) (Less.eq (by rw [hB23]; rw [Bool.true_or])))⟩
                              ·
                                refine wpO.bool hB23 ?_
                                refine wpO.val rfl (oper_fieldAddr rfl fo26_0 nz3 rfl) rfl ?_
                                refine wpO.val rfl (oper_load H15 (i := 0) rfl rfl (part_one ag3 rfl)) rfl ?_
                                refine wpO.val rfl (oper_bin rfl rfl binD_eql) rfl ?_
                                refine wpO.val rfl (oper_pick (b := false) rfl rfl) rfl ?_
                                exact wpO.nil ⟨_, rfl, (WeakE.put (WeakE.push rfl (WeakE.push rfl (WeakE.push rfl (WeakE.put (.refl _) (Less.eq (by rw [hB23])))))) (Less.eq (by rw [hB23]; rw [Bool.false_or])))⟩
                            ·
                              refine wpO.val rfl (oper_move rfl) rfl ?_
                              refine wpO.groupV 4 90 (.d (.bool ((a3 || (a1.Kind == 5)) || (a1.Kind == 6)))) ?_ ?_
                              ·
                                rcases Bool.eq_false_or_eq_true ((a3 || (a1.Kind == 5))) with hB24 | hB24
                                ·
                                  refine wpO.bool hB24 ?_
                                  refine wpO.no rfl rfl ?_
                                  refine wpO.no rfl rfl ?_
                                  refine wpO.no rfl rfl ?_
                                  refine wpO.val rfl (oper_pick (b := true) rfl rfl) rfl ?_
                                  exact wpO.nil ⟨_, rfl, (WeakE.put (WeakE.push rfl (WeakE.push rfl (WeakE.push rfl (WeakE.put (.refl _) (Less.eq (by rw [hB24])))))) (Less.eq (by rw [hB24]; rw [Bool.true_or])))⟩
                                ·
                                  refine wpO.bool hB24 ?_
                                  refine wpO.val rfl (oper_fieldAddr rfl fo26_0 nz3 rfl) rfl ?_
                                  refine wpO.val rfl (oper_load H15 (i := 0) rfl rfl (part_one ag3 rfl)) rfl ?_
                                  refine wpO.val rfl (oper_bin rfl rfl binD_eql) rfl ?_
                                  refine wpO.val rfl (oper_pick (b := false) rfl rfl) rfl ?_
                                  exact wpO.nil ⟨_, rfl, (WeakE.put (WeakE.push rfl (WeakE.push rfl (WeakE.push rfl (WeakE.put (.refl _) (Less.eq (by rw [hB24])))))) (Less.eq (by rw [hB24]; rw [Bool.false_or])))⟩
                              ·
                                refine wpO.val rfl (oper_assign rfl) rfl ?_
                                refine wpO.nil ?_
                                refine WpC.seq ?_
                                refine WpC.seq ?_
                                refine WpC.region E.obj rfl ?_
                                refine wpO.val rfl (oper_fieldAddr rfl fo26_5 nz24 rfl) rfl ?_
                                refine wpO.val rfl (oper_load H15 (i := 0) rfl rfl (part_one ag24 rfl)) rfl ?_
                                refine wpO.val rfl (oper_lenL rfl es24) rfl ?_
                                refine wpO.val rfl (oper_move rfl) rfl ?_
                                refine wpO.nil ?_
                                refine WpC.block ?_
                                refine WpL.start (B := pureSt) (α := Int) (fun k a => page_right_l33 (page_right n) a1 a2 a3 k a = some r) (fun a => [(1, (.d (.int .i64 a2))), (2, (.d (.bool ((a3 || (a1.Kind == 5)) || (a1.Kind == 6))))), (92, (.d (.sl ((a1.Kids).map encTpl) false))), (93, (.d (.int .i64 ((a1.Kids).length : Int)))), (94, (.d (.int .i64 a)))]) (fun a => []) ?_ ?_ n ⟨0, _, _, S14, .refl _ _, .refl _, (WeakE.cons rfl (.refl _) (WeakE.cons rfl (.refl _) (WeakE.cons rfl (.refl _) (WeakE.cons rfl (.refl _) (WeakE.cons rfl (.refl _) WeakE.nil))))), H15.sel [] (by decide) rfl, h⟩
                                · intro a h; simp [page_right_l33] at h
                                ·
                                  intro k33 x32 S30 H31 h
                                  replace h : page_right_l33 (page_right n) a1 a2 a3 (k33 + 1) x32 = some r := h
                                  replace H31 : Has pureSt S30 [] := H31
                                  unfold page_right_l33 at h
                                  refine WpC.seq ?_
                                  refine WpC.region E.obj rfl ?_
                                  refine wpO.val rfl (oper_bin rfl rfl binD_lss) rfl ?_
                                  refine wpO.nil ?_
                                  refine WpC.seq ?_
                                  refine WpC.cond rfl (fun hb34 => ?_) (fun hb34 => ?_)
                                  ·
                                    replace h := if_t hb34 h
                                    refine WpC.skip ?_
                                    refine WpC.seq ?_
                                    refine WpC.block ?_
                                    refine WpC.seq ?_
                                    refine WpC.region E.obj rfl ?_
                                    obtain ⟨z35, hzz35, h⟩ := bind_some h
                                    refine wpO.val rfl (oper_idx rfl rfl (idxAddr (enc := encTpl) hzz35 el24 as26 ((Tpl.len _).trans sz26.symm))) rfl ?_
                                    refine wpO.val rfl (oper_loadE rfl (Tpl.partW ag26 sz26)) rfl ?_
                                    refine wpO.alloc H31 rfl ob26 zo26 rfl rfl (fun b36 S37 H38 => ?_)
                                    refine wpO.store H38 (i := 0) rfl rfl rfl rfl (Tpl.cellsA _) rfl sz26 rfl as26 rfl rfl rfl (fun S39 H40 => ?_)
                                    refine wpO.nil ?_
                                    refine WpC.seq ?_
                                    refine WpC.region E.obj rfl ?_
                                    refine wpO.val rfl (oper_load H40 (i := 0) rfl rfl (part_agg ag26 sz26 rfl)) rfl ?_
                                    refine wpO.less (Less.agg' (d := encTpl z35) (CellsC.eq rfl (CellsC.eq rfl (CellsC.eq rfl (CellsC.eq rfl (CellsC.eq rfl (CellsC.eq rfl .nil)))))) ((Tpl.eq _).trans rfl)) ?_
                                    refine wpO.val rfl (oper_move rfl) rfl ?_
                                    refine wpO.val rfl (oper_move rfl) rfl ?_
                                    obtain ⟨z41, hzz41, h⟩ := bind_some h
                                    refine wpO.ret rfl (oper_callF rfl rfl) (ih _ _ _ _ hzz41 _ _ (ArgsC.eq (ArgsC.eq (ArgsC.eq .nil)))) rfl ?_
                                    refine wpO.val rfl (oper_not rfl) rfl ?_
                                    refine wpO.nil ?_
                                    refine WpC.cond rfl (fun hb42 => ?_) (fun hb42 => ?_)
                                    ·
                                      replace h := if_t hb42 h
                                      refine WpC.seq ?_
                                      refine WpC.region E.obj rfl ?_
                                      refine wpO.val rfl (oper_assign rfl) rfl ?_
                                      refine wpO.nil ?_
                                      have hr := Option.some.inj h
                                      subst hr
                                      exact WpC.ret ⟨_, rfl, rfl, end1 (ArgsC.eq .nil)⟩
                                    ·
                                      replace h := if_f hb42 h
                                      refine WpC.skip ?_
                                      refine WpC.region E.obj rfl ?_
                                      refine wpO.val rfl (oper_bin rfl rfl binD_add) rfl ?_
                                      refine wpO.val rfl (oper_move rfl) rfl ?_
                                      refine wpO.nil ?_
                                      exact ⟨(IntKind.wrap .i64 (x32 + 1)), _, _, S39, .refl _ _, .refl _, (WeakE.cons rfl (.refl _) (WeakE.cons rfl (.refl _) (WeakE.cons rfl (.refl _) (WeakE.cons rfl (.refl _) (WeakE.cons rfl (.refl _) WeakE.nil))))), H40.sel [] (by decide) rfl, h⟩
                                  ·
                                    replace h := if_f hb34 h
                                    refine WpC.exit ?_
                                    refine WpC.seq ?_
                                    refine WpC.region E.obj rfl ?_
                                    refine wpO.val rfl (oper_assign rfl) rfl ?_
                                    refine wpO.nil ?_
                                    have hr := Option.some.inj h
                                    subst hr
                                    exact WpC.ret ⟨_, rfl, rfl, end1 (ArgsC.eq .nil)⟩
                ·
                  refine WpC.seq ?_
                  refine WpC.region E.obj rfl ?_
                  refine wpO.val rfl (oper_fieldAddr rfl fo26_2 nz9 rfl) rfl ?_
                  refine wpO.val rfl (oper_load H6 (i := 0) rfl rfl (part_one ag9 rfl)) rfl ?_
                  refine wpO.val rfl (oper_bin rfl rfl binD_seql) rfl ?_
                  refine wpO.val rfl (oper_assign rfl) rfl ?_
                  refine wpO.nil ?_
                  refine WpC.cond rfl (fun hb43 => ?_) (fun hb43 => ?_)
                  ·
                    replace h := if_t hb43 h
                    refine WpC.skip ?_
                    exact ⟨(a1.Tag == [111, 117, 116, 108, 101, 116]), _, _, S5, .refl _ _, .refl _, (WeakE.cons rfl (.refl _) (WeakE.cons rfl (.refl _) (WeakE.cons rfl (.refl _) (WeakE.cons rfl (.refl _) (WeakE.cons rfl (.refl _) WeakE.nil))))), H6.sel [0] (by decide) rfl, h⟩
                  ·
                    replace h := if_f hb43 h
                    refine WpC.region E.obj rfl ?_
                    refine wpO.val rfl (oper_fieldAddr rfl fo26_0 nz3 rfl) rfl ?_
                    refine wpO.val rfl (oper_load H6 (i := 0) rfl rfl (part_one ag3 rfl)) rfl ?_
                    refine wpO.val rfl (oper_bin rfl rfl binD_eql) rfl ?_
                    refine wpO.val rfl (oper_move rfl) rfl ?_
                    refine wpO.groupV 2 61 (.d (.bool ((a1.Kind == 7) && a3))) ?_ ?_
                    ·
                      rcases Bool.eq_false_or_eq_true ((a1.Kind == 7)) with hB44 | hB44
                      ·
                        refine wpO.bool hB44 ?_
                        refine wpO.val rfl (oper_move rfl) rfl ?_
                        refine wpO.val rfl (oper_pick (b := true) rfl rfl) rfl ?_
                        exact wpO.nil ⟨_, rfl, (WeakE.put (WeakE.push rfl (WeakE.put (.refl _) (Less.eq (by rw [hB44])))) (Less.eq (by rw [hB44]; rw [Bool.true_and])))⟩
                      ·
                        refine wpO.bool hB44 ?_
                        refine wpO.no rfl rfl ?_
                        refine wpO.val rfl (oper_pick (b := false) rfl rfl) rfl ?_
                        exact wpO.nil ⟨_, rfl, (WeakE.put (WeakE.push rfl (WeakE.put (.refl _) (Less.eq (by rw [hB44])))) (Less.eq (by rw [hB44]; rw [Bool.false_and])))⟩
                    ·
                      refine wpO.val rfl (oper_assign rfl) rfl ?_
                      refine wpO.nil ?_
                      exact ⟨((a1.Kind == 7) && a3), _, _, S5, .refl _ _, .refl _, (WeakE.cons rfl (.refl _) (WeakE.cons rfl (.refl _) (WeakE.cons rfl (.refl _) (WeakE.cons rfl (.refl _) (WeakE.cons rfl (.refl _) WeakE.nil))))), H6.sel [0] (by decide) rfl, h⟩
set_option maxRecDepth 20000 in
set_option maxHeartbeats 4000000 in
theorem page_Right_ok (n : Nat) (a1 : Tpl) (a2 : Int) (r : Bool) (h : page_Right n a1 a2 = some r) : SpecC R cfg.P 22 [(encTpl a1), (.int .i64 a2)] (.d (.bool r)) := by
  unfold page_Right at h
  refine SpecC.of_wp E.obj.toObjOk (C := cfg) Tryd.func22 rfl nm22 rfl ?_
  have H0 : Has pureSt pureSt [] := Has.pure
  refine WpC.seq ?_
  refine WpC.region E.obj rfl ?_
  refine wpO.box H0 rfl rfl rfl (Tpl.cellsA _) rfl (fun b3 S4 H5 => ?_)
  refine wpO.val rfl (oper_assign rfl) rfl ?_
  refine wpO.nil ?_
  refine WpC.seq ?_
  refine WpC.region E.obj rfl ?_
  refine wpO.val rfl (oper_load H5 (i := 0) rfl rfl (part_agg ag26 sz26 rfl)) rfl ?_
  refine wpO.less (Less.agg' (d := encTpl a1) (CellsC.eq rfl (CellsC.eq rfl (CellsC.eq rfl (CellsC.eq rfl (CellsC.eq rfl (CellsC.eq rfl .nil)))))) ((Tpl.eq _).trans rfl)) ?_
  obtain ⟨z6, hzz6, h⟩ := bind_some h
  refine wpO.ret rfl (oper_callF rfl rfl) (page_count_ok E _ _ _ hzz6 _ _ (ArgsC.eq .nil)) rfl ?_
  refine wpO.val rfl (oper_move rfl) rfl ?_
  refine wpO.val rfl (oper_extract rfl rfl) rfl ?_
  refine wpO.val rfl (oper_extract rfl rfl) rfl ?_
  refine wpO.val rfl (oper_assign rfl) rfl ?_
  refine wpO.val rfl (oper_assign rfl) rfl ?_
  refine wpO.nil ?_
  refine WpC.seq ?_
  refine WpC.region E.obj rfl ?_
  refine wpO.val rfl (oper_fieldAddr rfl fo26_0 nz3 rfl) rfl ?_
  refine wpO.val rfl (oper_load H5 (i := 0) rfl rfl (part_one ag3 rfl)) rfl ?_
  refine wpO.val rfl (oper_bin rfl rfl binD_eql) rfl ?_
  refine wpO.val rfl (oper_move rfl) rfl ?_
  refine wpO.groupV 3 18 (.d (.bool ((a1.Kind == 1) && (decide (z6.1 ≤ 60))))) ?_ ?_
  ·
    rcases Bool.eq_false_or_eq_true ((a1.Kind == 1)) with hB7 | hB7
    ·
      refine wpO.bool hB7 ?_
      refine wpO.val rfl (oper_move rfl) rfl ?_
      refine wpO.val rfl (oper_bin rfl rfl binD_leq) rfl ?_
      refine wpO.val rfl (oper_pick (b := true) rfl rfl) rfl ?_
      exact wpO.nil ⟨_, rfl, (WeakE.put (WeakE.push rfl (WeakE.push rfl (WeakE.put (.refl _) (Less.eq (by rw [hB7]))))) (Less.eq (by rw [hB7]; rw [Bool.true_and])))⟩
    ·
      refine wpO.bool hB7 ?_
      refine wpO.no rfl rfl ?_
      refine wpO.no rfl rfl ?_
      refine wpO.val rfl (oper_pick (b := false) rfl rfl) rfl ?_
      exact wpO.nil ⟨_, rfl, (WeakE.put (WeakE.push rfl (WeakE.push rfl (WeakE.put (.refl _) (Less.eq (by rw [hB7]))))) (Less.eq (by rw [hB7]; rw [Bool.false_and])))⟩
  ·
    refine wpO.val rfl (oper_move rfl) rfl ?_
    refine wpO.groupV 3 22 (.d (.bool (((a1.Kind == 1) && (decide (z6.1 ≤ 60))) && (decide (z6.2 ≤ 12))))) ?_ ?_
    ·
      rcases Bool.eq_false_or_eq_true (((a1.Kind == 1) && (decide (z6.1 ≤ 60)))) with hB8 | hB8
      ·
        refine wpO.bool hB8 ?_
        refine wpO.val rfl (oper_move rfl) rfl ?_
        refine wpO.val rfl (oper_bin rfl rfl binD_leq) rfl ?_
        refine wpO.val rfl (oper_pick (b := true) rfl rfl) rfl ?_
        exact wpO.nil ⟨_, rfl, (WeakE.put (WeakE.push rfl (WeakE.push rfl (WeakE.put (.refl _) (Less.eq (by rw [hB8]))))) (Less.eq (by rw [hB8]; rw [Bool.true_and])))⟩
      ·
        refine wpO.bool hB8 ?_
        refine wpO.no rfl rfl ?_
        refine wpO.no rfl rfl ?_
        refine wpO.val rfl (oper_pick (b := false) rfl rfl) rfl ?_
        exact wpO.nil ⟨_, rfl, (WeakE.put (WeakE.push rfl (WeakE.push rfl (WeakE.put (.refl _) (Less.eq (by rw [hB8]))))) (Less.eq (by rw [hB8]; rw [Bool.false_and])))⟩
    ·
      refine wpO.val rfl (oper_move rfl) rfl ?_
      obtain ⟨z10, hzz10, h⟩ := bind_some h
      refine wpO.groupV 4 27 (.d (.bool z10)) ?_ ?_
      ·
        rcases Bool.eq_false_or_eq_true ((((a1.Kind == 1) && (decide (z6.1 ≤ 60))) && (decide (z6.2 ≤ 12)))) with hB9 | hB9
        ·
          refine wpO.bool hB9 ?_
          replace hzz10 := if_t hB9 hzz10
          refine wpO.val rfl (oper_load H5 (i := 0) rfl rfl (part_agg ag26 sz26 rfl)) rfl ?_
          refine wpO.less (Less.agg' (d := encTpl a1) (CellsC.eq rfl (CellsC.eq rfl (CellsC.eq rfl (CellsC.eq rfl (CellsC.eq rfl (CellsC.eq rfl .nil)))))) ((Tpl.eq _).trans rfl)) ?_
          refine wpO.val rfl (oper_move rfl) rfl ?_
          obtain ⟨z11, hzz11, hzz10⟩ := bind_some hzz10
          refine wpO.ret rfl (oper_callF rfl rfl) (page_right_ok E _ _ _ _ _ hzz11 _ _ (ArgsC.eq (ArgsC.eq (ArgsC.eq .nil)))) rfl ?_
          refine wpO.val rfl (oper_pick (b := true) rfl rfl) rfl ?_
          cases hzz10
          exact wpO.nil ⟨_, rfl, (WeakE.put (WeakE.push rfl (WeakE.push rfl (WeakE.push rfl (WeakE.put (.refl _) (Less.eq (by rw [hB9])))))) (.refl _))⟩
        ·
          refine wpO.bool hB9 ?_
          refine wpO.no rfl rfl ?_
          refine wpO.no rfl rfl ?_
          refine wpO.no rfl rfl ?_
          refine wpO.val rfl (oper_pick (b := false) rfl rfl) rfl ?_
          replace hzz10 := if_f hB9 hzz10
          cases hzz10
          exact wpO.nil ⟨_, rfl, (WeakE.put (WeakE.push rfl (WeakE.push rfl (WeakE.push rfl (WeakE.put (.refl _) (Less.eq (by rw [hB9])))))) (.refl _))⟩
      ·
        refine wpO.val rfl (oper_assign rfl) rfl ?_
        refine wpO.nil ?_
        have hr := Option.some.inj h
        subst hr
        exact WpC.ret ⟨_, rfl, rfl, end1 (ArgsC.eq .nil)⟩
set_option maxRecDepth 20000 in
set_option maxHeartbeats 4000000 in
theorem comp_Right_ok (n : Nat) (a1 : Comp) (r : Bool) (h : comp_Right n a1 = some r) : SpecC R cfg.P 12 [(encComp a1)] (.d (.bool r)) := by
  unfold comp_Right at h
  refine SpecC.of_wp E.obj.toObjOk (C := cfg) Tryd.func12 rfl nm12 rfl ?_
  have H0 : Has pureSt pureSt [] := Has.pure
  refine WpC.seq ?_
  refine WpC.region E.obj rfl ?_
  refine wpO.box H0 rfl rfl rfl (Comp.cellsA _) rfl (fun b2 S3 H4 => ?_)
  refine wpO.val rfl (oper_assign rfl) rfl ?_
  refine wpO.nil ?_
  refine WpC.seq ?_
  refine WpC.seq ?_
  refine WpC.region E.obj rfl ?_
  refine wpO.val rfl (oper_fieldAddr rfl fo32_1 nz27 rfl) rfl ?_
  refine wpO.val rfl (oper_load H4 (i := 0) rfl rfl (part_one ag27 rfl)) rfl ?_
  refine wpO.val rfl (oper_lenL rfl es27) rfl ?_
  refine wpO.val rfl (oper_bin rfl rfl binD_gtr) rfl ?_
  refine wpO.val rfl (oper_move rfl) rfl ?_
  obtain ⟨z6, hzz6, h⟩ := bind_some h
  refine wpO.groupV 5 15 (.d (.bool z6)) ?_ ?_
  ·
    rcases Bool.eq_false_or_eq_true ((decide (6 < ((a1.Init).length : Int)))) with hB5 | hB5
    ·
      refine wpO.bool hB5 ?_
      refine wpO.no rfl rfl ?_
      refine wpO.no rfl rfl ?_
      refine wpO.no rfl rfl ?_
      refine wpO.no rfl rfl ?_
      refine wpO.val rfl (oper_pick (b := true) rfl rfl) rfl ?_
      replace hzz6 := if_t hB5 hzz6
      cases hzz6
      exact wpO.nil ⟨_, rfl, (WeakE.put (WeakE.push rfl (WeakE.push rfl (WeakE.push rfl (WeakE.push rfl (WeakE.put (.refl _) (Less.eq (by rw [hB5]))))))) (.refl _))⟩
    ·
      refine wpO.bool hB5 ?_
      replace hzz6 := if_f hB5 hzz6
      refine wpO.val rfl (oper_fieldAddr rfl fo32_1 nz27 rfl) rfl ?_
      refine wpO.val rfl (oper_load H4 (i := 0) rfl rfl (part_one ag27 rfl)) rfl ?_
      obtain ⟨z7, hzz7, hzz6⟩ := bind_some hzz6
      refine wpO.ret rfl (oper_callF rfl rfl) (comp_all_ok E _ _ _ hzz7 _ _ (ArgsC.eq .nil)) rfl ?_
      refine wpO.val rfl (oper_not rfl) rfl ?_
      refine wpO.val rfl (oper_pick (b := false) rfl rfl) rfl ?_
      cases hzz6
      exact wpO.nil ⟨_, rfl, (WeakE.put (WeakE.push rfl (WeakE.push rfl (WeakE.push rfl (WeakE.push rfl (WeakE.put (.refl _) (Less.eq (by rw [hB5]))))))) (.refl _))⟩
  ·
    refine wpO.val rfl (oper_move rfl) rfl ?_
    refine wpO.groupV 5 21 (.d (.bool (z6 || (decide (24 < ((a1.On).length : Int)))))) ?_ ?_
    ·
      rcases Bool.eq_false_or_eq_true (z6) with hB8 | hB8
      ·
        refine wpO.bool hB8 ?_
        refine wpO.no rfl rfl ?_
        refine wpO.no rfl rfl ?_
        refine wpO.no rfl rfl ?_
        refine wpO.no rfl rfl ?_
        refine wpO.val rfl (oper_pick (b := true) rfl rfl) rfl ?_
        exact wpO.nil ⟨_, rfl, (WeakE.put (WeakE.push rfl (WeakE.push rfl (WeakE.push rfl (WeakE.push rfl (WeakE.put (.refl _) (Less.eq (by rw [hB8]))))))) (Less.eq (by rw [hB8]; rw [Bool.true_or])))⟩
      ·
        refine wpO.bool hB8 ?_
        refine wpO.val rfl (oper_fieldAddr rfl fo32_2 nz30 rfl) rfl ?_
        refine wpO.val rfl (oper_load H4 (i := 0) rfl rfl (part_one ag30 rfl)) rfl ?_
        refine wpO.val rfl (oper_lenL rfl es30) rfl ?_
        refine wpO.val rfl (oper_bin rfl rfl binD_gtr) rfl ?_
        refine wpO.val rfl (oper_pick (b := false) rfl rfl) rfl ?_
        exact wpO.nil ⟨_, rfl, (WeakE.put (WeakE.push rfl (WeakE.push rfl (WeakE.push rfl (WeakE.push rfl (WeakE.put (.refl _) (Less.eq (by rw [hB8]))))))) (Less.eq (by rw [hB8]; rw [Bool.false_or])))⟩
    ·
      refine wpO.val rfl (oper_move rfl) rfl ?_
      obtain ⟨z10, hzz10, h⟩ := bind_some h
      refine wpO.groupV 8 30 (.d (.bool z10)) ?_ ?_
      ·
        rcases Bool.eq_false_or_eq_true ((z6 || (decide (24 < ((a1.On).length : Int))))) with hB9 | hB9
        ·
          refine wpO.bool hB9 ?_
          refine wpO.no rfl rfl ?_
          refine wpO.no rfl rfl ?_
          refine wpO.no rfl rfl ?_
          refine wpO.no rfl rfl ?_
          refine wpO.no rfl rfl ?_
          refine wpO.no rfl rfl ?_
          refine wpO.no rfl rfl ?_
          refine wpO.val rfl (oper_pick (b := true) rfl rfl) rfl ?_
          replace hzz10 := if_t hB9 hzz10
          cases hzz10
          exact wpO.nil ⟨_, rfl, (WeakE.put (WeakE.push rfl (WeakE.push rfl (WeakE.push rfl (WeakE.push rfl (WeakE.push rfl (WeakE.push rfl (WeakE.push rfl (WeakE.put (.refl _) (Less.eq (by rw [hB9])))))))))) (.refl _))⟩
        ·
          refine wpO.bool hB9 ?_
          replace hzz10 := if_f hB9 hzz10
          refine wpO.val rfl (oper_fieldAddr rfl fo32_0 nz26 rfl) rfl ?_
          refine wpO.val rfl (oper_load H4 (i := 0) rfl rfl (part_agg ag26 sz26 rfl)) rfl ?_
          refine wpO.less (Less.agg' (d := encTpl a1.Tpl) (CellsC.eq rfl (CellsC.eq rfl (CellsC.eq rfl (CellsC.eq rfl (CellsC.eq rfl (CellsC.eq rfl .nil)))))) ((Tpl.eq _).trans rfl)) ?_
          refine wpO.val rfl (oper_fieldAddr rfl fo32_1 nz27 rfl) rfl ?_
          refine wpO.val rfl (oper_load H4 (i := 0) rfl rfl (part_one ag27 rfl)) rfl ?_
          refine wpO.val rfl (oper_lenL rfl es27) rfl ?_
          obtain ⟨z11, hzz11, hzz10⟩ := bind_some hzz10
          refine wpO.ret rfl (oper_callF rfl rfl) (page_Right_ok E _ _ _ _ hzz11 _ _ (ArgsC.eq (ArgsC.eq .nil))) rfl ?_
          refine wpO.val rfl (oper_not rfl) rfl ?_
          refine wpO.val rfl (oper_pick (b := false) rfl rfl) rfl ?_
          cases hzz10
          exact wpO.nil ⟨_, rfl, (WeakE.put (WeakE.push rfl (WeakE.push rfl (WeakE.push rfl (WeakE.push rfl (WeakE.push rfl (WeakE.push rfl (WeakE.push rfl (WeakE.put (.refl _) (Less.eq (by rw [hB9])))))))))) (.refl _))⟩
      ·
        refine wpO.nil ?_
        refine WpC.cond rfl (fun hb12 => ?_) (fun hb12 => ?_)
        ·
          replace h := if_t hb12 h
          refine WpC.seq ?_
          refine WpC.region E.obj rfl ?_
          refine wpO.val rfl (oper_assign rfl) rfl ?_
          refine wpO.nil ?_
          have hr := Option.some.inj h
          subst hr
          exact WpC.ret ⟨_, rfl, rfl, end1 (ArgsC.eq .nil)⟩
        ·
          replace h := if_f hb12 h
          refine WpC.skip ?_
          refine WpC.seq ?_
          refine WpC.seq ?_
          refine WpC.region E.obj rfl ?_
          refine wpO.val rfl (oper_fieldAddr rfl fo32_2 nz30 rfl) rfl ?_
          refine wpO.val rfl (oper_load H4 (i := 0) rfl rfl (part_one ag30 rfl)) rfl ?_
          refine wpO.val rfl (oper_lenL rfl es30) rfl ?_
          refine wpO.val rfl (oper_move rfl) rfl ?_
          refine wpO.nil ?_
          refine WpC.block ?_
          refine WpL.start (B := pureSt) (α := Int) (fun k a => comp_Right_l21 n a1 k a = some r) (fun a => [(1, (.ptr b2 0 0)), (32, (.d (.sl ((a1.On).map encOn) false))), (33, (.d (.int .i64 ((a1.On).length : Int)))), (34, (.d (.int .i64 a)))]) (fun a => [.box b2 [(.d (.int .i64 a1.Tpl.Kind)), (.d (.int .i64 a1.Tpl.N)), (.d (.str a1.Tpl.Tag)), (.d (.str a1.Tpl.Text)), (.d (.sl ((a1.Tpl.Attrs).map encAttr) false)), (.d (.sl ((a1.Tpl.Kids).map encTpl) false)), (.d (.sl ((a1.Init).map (D.int .i64)) false)), (.d (.sl ((a1.On).map encOn) false))]]) ?_ ?_ n ⟨0, _, _, S3, .refl _ _, .refl _, (WeakE.cons rfl (.refl _) (WeakE.cons rfl (.refl _) (WeakE.cons rfl (.refl _) (WeakE.cons rfl (.refl _) WeakE.nil)))), H4.sel [0] (by decide) rfl, h⟩
          · intro a h; simp [comp_Right_l21] at h
          ·
            intro k21 x20 S18 H19 h
            replace h : comp_Right_l21 n a1 (k21 + 1) x20 = some r := h
            replace H19 : Has pureSt S18 [.box b2 [(.d (.int .i64 a1.Tpl.Kind)), (.d (.int .i64 a1.Tpl.N)), (.d (.str a1.Tpl.Tag)), (.d (.str a1.Tpl.Text)), (.d (.sl ((a1.Tpl.Attrs).map encAttr) false)), (.d (.sl ((a1.Tpl.Kids).map encTpl) false)), (.d (.sl ((a1.Init).map (D.int .i64)) false)), (.d (.sl ((a1.On).map encOn) false))]] := H19
            unfold comp_Right_l21 at h
            refine WpC.seq ?_
            refine WpC.region E.obj rfl ?_
            refine wpO.val rfl (oper_bin rfl rfl binD_lss) rfl ?_
            refine wpO.nil ?_
            refine WpC.seq ?_
            refine WpC.cond rfl (fun hb22 => ?_) (fun hb22 => ?_)
            ·
              replace h := if_t hb22 h
              refine WpC.skip ?_
              refine WpC.seq ?_
              refine WpC.block ?_
              refine WpC.seq ?_
              refine WpC.region E.obj rfl ?_
              obtain ⟨z23, hzz23, h⟩ := bind_some h
              refine wpO.val rfl (oper_idx rfl rfl (idxAddr (enc := encOn) hzz23 el30 as29 ((On.len _).trans sz29.symm))) rfl ?_
              refine wpO.val rfl (oper_loadE rfl (On.partW ag29 sz29)) rfl ?_
              refine wpO.alloc H19 rfl ob29 zo29 rfl rfl (fun b24 S25 H26 => ?_)
              refine wpO.store H26 (i := 0) rfl rfl rfl rfl (On.cellsA _) rfl sz29 rfl as29 rfl rfl rfl (fun S27 H28 => ?_)
              refine wpO.nil ?_
              refine WpC.seq ?_
              refine WpC.region E.obj rfl ?_
              refine wpO.val rfl (oper_fieldAddr rfl fo29_0 nz9 rfl) rfl ?_
              refine wpO.val rfl (oper_load H28 (i := 0) rfl rfl (part_one ag9 rfl)) rfl ?_
              refine wpO.val rfl (oper_bin rfl rfl binD_sneq) rfl ?_
              refine wpO.val rfl (oper_move rfl) rfl ?_
              refine wpO.groupV 5 46 (.d (.bool ((!(z23.Event == [])) && (decide (((z23.Event).length : Int) ≤ 16))))) ?_ ?_
              ·
                rcases Bool.eq_false_or_eq_true ((!(z23.Event == []))) with hB29 | hB29
                ·
                  refine wpO.bool hB29 ?_
                  refine wpO.val rfl (oper_fieldAddr rfl fo29_0 nz9 rfl) rfl ?_
                  refine wpO.val rfl (oper_load H28 (i := 0) rfl rfl (part_one ag9 rfl)) rfl ?_
                  refine wpO.val rfl (oper_len rfl (lenTy_str st9) rfl) rfl ?_
                  refine wpO.val rfl (oper_bin rfl rfl binD_leq) rfl ?_
                  refine wpO.val rfl (oper_pick (b := true) rfl rfl) rfl ?_
                  exact wpO.nil ⟨_, rfl, (WeakE.put (WeakE.push rfl (WeakE.push rfl (WeakE.push rfl (WeakE.push rfl (WeakE.put (.refl _) (Less.eq (by rw [hB29]))))))) (Less.eq (by rw [hB29]; rw [Bool.true_and])))⟩
                ·
                  refine wpO.bool hB29 ?_
                  refine wpO.no rfl rfl ?_
                  refine wpO.no rfl rfl ?_
                  refine wpO.no rfl rfl ?_
                  refine wpO.no rfl rfl ?_
                  refine wpO.val rfl (oper_pick (b := false) rfl rfl) rfl ?_
                  exact wpO.nil ⟨_, rfl, (WeakE.put (WeakE.push rfl (WeakE.push rfl (WeakE.push rfl (WeakE.push rfl (WeakE.put (.refl _) (Less.eq (by rw [hB29]))))))) (Less.eq (by rw [hB29]; rw [Bool.false_and])))⟩
              ·
                refine wpO.val rfl (oper_move rfl) rfl ?_
                obtain ⟨z31, hzz31, h⟩ := bind_some h
                refine wpO.groupV 5 52 (.d (.bool z31)) ?_ ?_
                ·
                  rcases Bool.eq_false_or_eq_true (((!(z23.Event == [])) && (decide (((z23.Event).length : Int) ≤ 16)))) with hB30 | hB30
                  ·
                    refine wpO.bool hB30 ?_
                    replace hzz31 := if_t hB30 hzz31
                    refine wpO.val rfl (oper_fieldAddr rfl fo29_0 nz9 rfl) rfl ?_
                    refine wpO.val rfl (oper_load H28 (i := 0) rfl rfl (part_one ag9 rfl)) rfl ?_
                    obtain ⟨z32, hzz32, hzz31⟩ := bind_some hzz31
                    refine wpO.ret rfl (oper_callF rfl rfl) (E.strings_Trim_ok _ _ _ _ hzz32 _ _ (ArgsC.eq (ArgsC.eq .nil))) rfl ?_
                    refine wpO.val rfl (oper_bin rfl rfl binD_seql) rfl ?_
                    refine wpO.val rfl (oper_pick (b := true) rfl rfl) rfl ?_
                    cases hzz31
                    exact wpO.nil ⟨_, rfl, (WeakE.put (WeakE.push rfl (WeakE.push rfl (WeakE.push rfl (WeakE.push rfl (WeakE.put (.refl _) (Less.eq (by rw [hB30]))))))) (.refl _))⟩
                  ·
                    refine wpO.bool hB30 ?_
                    refine wpO.no rfl rfl ?_
                    refine wpO.no rfl rfl ?_
                    refine wpO.no rfl rfl ?_
                    refine wpO.no rfl rfl ?_
                    refine wpO.val rfl (oper_pick (b := false) rfl rfl) rfl ?_
                    replace hzz31 := if_f hB30 hzz31
                    cases hzz31
                    exact wpO.nil ⟨_, rfl, (WeakE.put (WeakE.push rfl (WeakE.push rfl (WeakE.push rfl (WeakE.push rfl (WeakE.put (.refl _) (Less.eq (by rw [hB30]))))))) (.refl _))⟩
                ·
                  refine wpO.val rfl (oper_assign rfl) rfl ?_
                  refine wpO.nil ?_
                  refine WpC.seq ?_
                  refine WpC.region E.obj rfl ?_
                  refine wpO.val rfl (oper_move rfl) rfl ?_
                  refine wpO.val rfl (oper_not rfl) rfl ?_
                  refine wpO.val rfl (oper_move rfl) rfl ?_
                  refine wpO.groupV 4 59 (.d (.bool ((!z31) || (decide (z23.N < 0))))) ?_ ?_
                  ·
                    rcases Bool.eq_false_or_eq_true ((!z31)) with hB33 | hB33
                    ·
                      refine wpO.bool hB33 ?_
                      refine wpO.no rfl rfl ?_
                      refine wpO.no rfl rfl ?_
                      refine wpO.no rfl rfl ?_
                      refine wpO.val rfl (oper_pick (b := true) rfl rfl) rfl ?_
                      exact wpO.nil ⟨_, rfl, (WeakE.put (WeakE.push rfl (WeakE.push rfl (WeakE.push rfl (WeakE.put (.refl _) (Less.eq (by rw [hB33])))))) (Less.eq (by rw [hB33]; rw [Bool.true_or])))⟩
                    ·
                      refine wpO.bool hB33 ?_
                      refine wpO.val rfl (oper_fieldAddr rfl fo29_1 nz3 rfl) rfl ?_
                      refine wpO.val rfl (oper_load H28 (i := 0) rfl rfl (part_one ag3 rfl)) rfl ?_
                      refine wpO.val rfl (oper_bin rfl rfl binD_lss) rfl ?_
                      refine wpO.val rfl (oper_pick (b := false) rfl rfl) rfl ?_
                      exact wpO.nil ⟨_, rfl, (WeakE.put (WeakE.push rfl (WeakE.push rfl (WeakE.push rfl (WeakE.put (.refl _) (Less.eq (by rw [hB33])))))) (Less.eq (by rw [hB33]; rw [Bool.false_or])))⟩
                  ·
                    refine wpO.val rfl (oper_move rfl) rfl ?_
                    refine wpO.groupV 7 67 (.d (.bool (((!z31) || (decide (z23.N < 0))) || (decide (((a1.Init).length : Int) ≤ z23.N))))) ?_ ?_
                    ·
                      rcases Bool.eq_false_or_eq_true (((!z31) || (decide (z23.N < 0)))) with hB34 | hB34
                      ·
                        refine wpO.bool hB34 ?_
                        refine wpO.no rfl rfl ?_
                        refine wpO.no rfl rfl ?_
                        refine wpO.no rfl rfl ?_
                        refine wpO.no rfl rfl ?_
                        refine wpO.no rfl rfl ?_
                        refine wpO.no rfl rfl ?_
                        refine wpO.val rfl (oper_pick (b := true) rfl rfl) rfl ?_
                        exact wpO.nil ⟨_, rfl, (WeakE.put (WeakE.push rfl (WeakE.push rfl (WeakE.push rfl (WeakE.push rfl (WeakE.push rfl (WeakE.push rfl (WeakE.put (.refl _) (Less.eq (by rw [hB34]))))))))) (Less.eq (by rw [hB34]; rw [Bool.true_or])))⟩
                      ·
                        refine wpO.bool hB34 ?_
                        refine wpO.val rfl (oper_fieldAddr rfl fo29_1 nz3 rfl) rfl ?_
                        refine wpO.val rfl (oper_load H28 (i := 0) rfl rfl (part_one ag3 rfl)) rfl ?_
                        refine wpO.val rfl (oper_fieldAddr rfl fo32_1 nz27 rfl) rfl ?_
                        refine wpO.val rfl (oper_load H28 (i := 1) rfl rfl (part_one ag27 rfl)) rfl ?_
                        refine wpO.val rfl (oper_lenL rfl es27) rfl ?_
                        refine wpO.val rfl (oper_bin rfl rfl binD_geq) rfl ?_
                        refine wpO.val rfl (oper_pick (b := false) rfl rfl) rfl ?_
                        exact wpO.nil ⟨_, rfl, (WeakE.put (WeakE.push rfl (WeakE.push rfl (WeakE.push rfl (WeakE.push rfl (WeakE.push rfl (WeakE.push rfl (WeakE.put (.refl _) (Less.eq (by rw [hB34]))))))))) (Less.eq (by rw [hB34]; rw [Bool.false_or])))⟩
                    ·
                      refine wpO.val rfl (oper_move rfl) rfl ?_
                      obtain ⟨z36, hzz36, h⟩ := bind_some h
                      refine wpO.groupV 5 73 (.d (.bool z36)) ?_ ?_
                      ·
                        rcases Bool.eq_false_or_eq_true ((((!z31) || (decide (z23.N < 0))) || (decide (((a1.Init).length : Int) ≤ z23.N)))) with hB35 | hB35
                        ·
                          refine wpO.bool hB35 ?_
                          refine wpO.no rfl rfl ?_
                          refine wpO.no rfl rfl ?_
                          refine wpO.no rfl rfl ?_
                          refine wpO.no rfl rfl ?_
                          refine wpO.val rfl (oper_pick (b := true) rfl rfl) rfl ?_
                          replace hzz36 := if_t hB35 hzz36
                          cases hzz36
                          exact wpO.nil ⟨_, rfl, (WeakE.put (WeakE.push rfl (WeakE.push rfl (WeakE.push rfl (WeakE.push rfl (WeakE.put (.refl _) (Less.eq (by rw [hB35]))))))) (.refl _))⟩
                        ·
                          refine wpO.bool hB35 ?_
                          replace hzz36 := if_f hB35 hzz36
                          refine wpO.val rfl (oper_fieldAddr rfl fo29_2 nz3 rfl) rfl ?_
                          refine wpO.val rfl (oper_load H28 (i := 0) rfl rfl (part_one ag3 rfl)) rfl ?_
                          obtain ⟨z37, hzz37, hzz36⟩ := bind_some hzz36
                          refine wpO.ret rfl (oper_callF rfl rfl) (comp_may_ok E _ _ _ hzz37 _ _ (ArgsC.eq .nil)) rfl ?_
                          refine wpO.val rfl (oper_not rfl) rfl ?_
                          refine wpO.val rfl (oper_pick (b := false) rfl rfl) rfl ?_
                          cases hzz36
                          exact wpO.nil ⟨_, rfl, (WeakE.put (WeakE.push rfl (WeakE.push rfl (WeakE.push rfl (WeakE.push rfl (WeakE.put (.refl _) (Less.eq (by rw [hB35]))))))) (.refl _))⟩
                      ·
                        refine wpO.nil ?_
                        refine WpC.cond rfl (fun hb38 => ?_) (fun hb38 => ?_)
                        ·
                          replace h := if_t hb38 h
                          refine WpC.seq ?_
                          refine WpC.region E.obj rfl ?_
                          refine wpO.val rfl (oper_assign rfl) rfl ?_
                          refine wpO.nil ?_
                          have hr := Option.some.inj h
                          subst hr
                          exact WpC.ret ⟨_, rfl, rfl, end1 (ArgsC.eq .nil)⟩
                        ·
                          replace h := if_f hb38 h
                          refine WpC.skip ?_
                          refine WpC.region E.obj rfl ?_
                          refine wpO.val rfl (oper_bin rfl rfl binD_add) rfl ?_
                          refine wpO.val rfl (oper_move rfl) rfl ?_
                          refine wpO.nil ?_
                          exact ⟨(IntKind.wrap .i64 (x20 + 1)), _, _, S27, .refl _ _, .refl _, (WeakE.cons rfl (.refl _) (WeakE.cons rfl (.refl _) (WeakE.cons rfl (.refl _) (WeakE.cons rfl (.refl _) WeakE.nil)))), H28.sel [1] (by decide) rfl, h⟩
            ·
              replace h := if_f hb22 h
              refine WpC.exit ?_
              refine WpC.seq ?_
              refine WpC.region E.obj rfl ?_
              refine wpO.val rfl (oper_assign rfl) rfl ?_
              refine wpO.nil ?_
              have hr := Option.some.inj h
              subst hr
              exact WpC.ret ⟨_, rfl, rfl, end1 (ArgsC.eq .nil)⟩
theorem slices_Clone__int_int__ok (n : Nat) (a1 : (List Int)) (r : (List Int)) (h : slices_Clone__int_int_ n a1 = some r) : SpecC R cfg.P 17 [(.sl ((a1).map (D.int .i64)) false)] (.d (.sl ((r).map (D.int .i64)) false)) := by
  unfold slices_Clone__int_int_ at h
  refine SpecC.of_wp E.obj.toObjOk (C := cfg) Tryd.func17 rfl nm17 rfl ?_
  have H0 : Has pureSt pureSt [] := Has.pure
  refine WpC.seq ?_
  refine WpC.region E.obj rfl ?_
  refine wpO.val rfl (oper_assign rfl) rfl ?_
  refine wpO.nil ?_
  refine WpC.seq ?_
  refine WpC.seq ?_
  refine WpC.region E.obj rfl ?_
  refine wpO.val rfl (oper_move rfl) rfl ?_
  refine wpO.eqNil rfl rfl rfl us27s rfl (fun bb hbb => ?_)
  refine wpO.nil ?_
  refine WpC.cond rfl (fun hb => ?_) (fun hb => ?_)
  · have e := map_nil (hbb hb)
    subst e
    have hr := (app_some h).2
    subst hr
    refine WpC.seq ?_
    refine WpC.region E.obj rfl ?_
    refine wpO.val rfl (oper_assign rfl) rfl ?_
    refine wpO.nil ?_
    exact WpC.ret ⟨_, rfl, rfl, end1 (ArgsC.consW rfl (.nils false) .nil)⟩
  · refine WpC.skip ?_
    refine WpC.seq ?_
    refine WpC.region E.obj rfl ?_
    refine wpO.val rfl (oper_buildSlice0 rw27 el27 ag3) rfl ?_
    refine wpO.val rfl (oper_move rfl) rfl ?_
    have H1 := H0.tightG (([] : (List Int)).map (D.int .i64))
    refine wpO.append (xs := ([] : (List Int)).map (D.int .i64)) (ys := (a1).map (D.int .i64)) (zs := (r).map (D.int .i64)) H1 rfl rfl rfl (i := 0) rfl rfl rw27 os27 el27 (app_bound (enc := (D.int .i64)) h) nb3 rfl (sizes_map (enc := (D.int .i64)) (fun _ => sz3.symm) _) (sizes_map (enc := (D.int .i64)) (fun _ => sz3.symm) _) zk3 rfl (app_eq h) (fun v2 S2 H2 => ?_)
    refine wpO.val rfl (oper_assign rfl) rfl ?_
    refine wpO.nil ?_
    exact WpC.ret ⟨_, rfl, rfl, end1 (ArgsC.grow H2 (i := 0) rfl .nil)⟩
theorem slices_Clone__int_int__okN (n : Nat) (a1 : (List Int)) (r : (List Int)) (h : slices_Clone__int_int_ n a1 = some r) : SpecN R cfg.P 17 [(.sl ((a1).map (D.int .i64)) false)] (fun v l => l = [.row 1 v ((r).map (D.int .i64))]) := by
  unfold slices_Clone__int_int_ at h
  refine SpecN.of_wp (C := cfgR1) Tryd.func17 rfl nm17 rfl (fun S0 wf0 => ?_)
  have H0 : Has S0 S0 [] := Has.start wf0
  refine WpC.seq ?_
  refine WpC.region (objR1 E) rfl ?_
  refine wpO.val rfl (oper_assign rfl) rfl ?_
  refine wpO.nil ?_
  refine WpC.seq ?_
  refine WpC.seq ?_
  refine WpC.region (objR1 E) rfl ?_
  refine wpO.val rfl (oper_move rfl) rfl ?_
  refine wpO.eqNil rfl rfl rfl us27s rfl (fun bb hbb => ?_)
  refine wpO.nil ?_
  refine WpC.cond rfl (fun hb => ?_) (fun hb => ?_)
  · have e := map_nil (hbb hb)
    subst e
    have hr := (app_some h).2
    subst hr
    refine WpC.seq ?_
    refine WpC.region (objR1 E) rfl ?_
    refine wpO.val rfl (oper_assign rfl) rfl ?_
    refine wpO.nil ?_
    exact WpC.ret ⟨_, rfl, rfl, _, _, .refl _, rfl, H0.nilR 1⟩
  · refine WpC.skip ?_
    refine WpC.seq ?_
    refine WpC.region (objR1 E) rfl ?_
    refine wpO.val rfl (oper_buildSlice0R bs27xR1 el27 ag3) rfl ?_
    refine wpO.val rfl (oper_move rfl) rfl ?_
    have H1 := H0.tightR 1
    refine wpO.rowAppend (xs := ([] : (List Int)).map (D.int .i64)) (ys := (a1).map (D.int .i64)) (zs := (r).map (D.int .i64)) H1 rfl rfl rfl (i := 0) rfl sz3 rfl rw27R1 os27R1 el27 (app_bound (enc := (D.int .i64)) h) nb3 rfl (sizes_map (enc := (D.int .i64)) (fun _ => sz3.symm) _) (flat_map (fun _ => rfl) _) rfl zk3R1 rfl (app_eq h) (fun v2 S2 H2 => ?_)
    refine wpO.val rfl (oper_assign rfl) rfl ?_
    refine wpO.nil ?_
    exact WpC.ret ⟨_, rfl, rfl, _, _, .refl _, rfl, H2⟩
theorem slices_Clone__api_Attr_api_Attr__ok (n : Nat) (a1 : (List Attr)) (r : (List Attr)) (h : slices_Clone__api_Attr_api_Attr_ n a1 = some r) : SpecC R cfg.P 44 [(.sl ((a1).map encAttr) false)] (.d (.sl ((r).map encAttr) false)) := by
  unfold slices_Clone__api_Attr_api_Attr_ at h
  refine SpecC.of_wp E.obj.toObjOk (C := cfg) Tryd.func44 rfl nm44 rfl ?_
  have H0 : Has pureSt pureSt [] := Has.pure
  refine WpC.seq ?_
  refine WpC.region E.obj rfl ?_
  refine wpO.val rfl (oper_assign rfl) rfl ?_
  refine wpO.nil ?_
  refine WpC.seq ?_
  refine WpC.seq ?_
  refine WpC.region E.obj rfl ?_
  refine wpO.val rfl (oper_move rfl) rfl ?_
  refine wpO.eqNil rfl rfl rfl us23s rfl (fun bb hbb => ?_)
  refine wpO.nil ?_
  refine WpC.cond rfl (fun hb => ?_) (fun hb => ?_)
  · have e := map_nil (hbb hb)
    subst e
    have hr := (app_some h).2
    subst hr
    refine WpC.seq ?_
    refine WpC.region E.obj rfl ?_
    refine wpO.val rfl (oper_assign rfl) rfl ?_
    refine wpO.nil ?_
    exact WpC.ret ⟨_, rfl, rfl, end1 (ArgsC.consW rfl (.nils false) .nil)⟩
  · refine WpC.skip ?_
    refine WpC.seq ?_
    refine WpC.region E.obj rfl ?_
    refine wpO.val rfl (oper_buildSlice0 rw23 el23 ag68) rfl ?_
    refine wpO.val rfl (oper_move rfl) rfl ?_
    have H1 := H0.tightG (([] : (List Attr)).map encAttr)
    refine wpO.append (xs := ([] : (List Attr)).map encAttr) (ys := (a1).map encAttr) (zs := (r).map encAttr) H1 rfl rfl rfl (i := 0) rfl rfl rw23 os23 el23 (app_bound (enc := encAttr) h) nb68 rfl (sizes_map (enc := encAttr) (fun z => (Attr.len z).trans sz68.symm) _) (sizes_map (enc := encAttr) (fun z => (Attr.len z).trans sz68.symm) _) zk68 rfl (app_eq h) (fun v2 S2 H2 => ?_)
    refine wpO.val rfl (oper_assign rfl) rfl ?_
    refine wpO.nil ?_
    exact WpC.ret ⟨_, rfl, rfl, end1 (ArgsC.grow H2 (i := 0) rfl .nil)⟩
theorem slices_Clone__api_Tpl_api_Tpl__okN (n : Nat) (a1 : (List Tpl)) (r : (List Tpl)) (h : slices_Clone__api_Tpl_api_Tpl_ n a1 = some r) : SpecN R cfg.P 45 [(.sl ((a1).map encTpl) false)] (fun v l => l = [.row 6 v ((r).map encTpl)]) := by
  unfold slices_Clone__api_Tpl_api_Tpl_ at h
  refine SpecN.of_wp (C := cfgR2) Tryd.func45 rfl nm45 rfl (fun S0 wf0 => ?_)
  have H0 : Has S0 S0 [] := Has.start wf0
  refine WpC.seq ?_
  refine WpC.region (objR2 E) rfl ?_
  refine wpO.val rfl (oper_assign rfl) rfl ?_
  refine wpO.nil ?_
  refine WpC.seq ?_
  refine WpC.seq ?_
  refine WpC.region (objR2 E) rfl ?_
  refine wpO.val rfl (oper_move rfl) rfl ?_
  refine wpO.eqNil rfl rfl rfl us24s rfl (fun bb hbb => ?_)
  refine wpO.nil ?_
  refine WpC.cond rfl (fun hb => ?_) (fun hb => ?_)
  · have e := map_nil (hbb hb)
    subst e
    have hr := (app_some h).2
    subst hr
    refine WpC.seq ?_
    refine WpC.region (objR2 E) rfl ?_
    refine wpO.val rfl (oper_assign rfl) rfl ?_
    refine wpO.nil ?_
    exact WpC.ret ⟨_, rfl, rfl, _, _, .refl _, rfl, H0.nilR 6⟩
  · refine WpC.skip ?_
    refine WpC.seq ?_
    refine WpC.region (objR2 E) rfl ?_
    refine wpO.val rfl (oper_buildSlice0R bs24xR2 el24 ag26) rfl ?_
    refine wpO.val rfl (oper_move rfl) rfl ?_
    have H1 := H0.tightR 6
    refine wpO.rowAppend (xs := ([] : (List Tpl)).map encTpl) (ys := (a1).map encTpl) (zs := (r).map encTpl) H1 rfl rfl rfl (i := 0) rfl sz26 rfl rw24R2 os24R2 el24 (app_bound (enc := encTpl) h) nb26 rfl (sizes_map (enc := encTpl) (fun z => (Tpl.len z).trans sz26.symm) _) (flat_map (fun x => Tpl.flat x) _) rfl zk26R2 rfl (app_eq h) (fun v2 S2 H2 => ?_)
    refine wpO.val rfl (oper_assign rfl) rfl ?_
    refine wpO.nil ?_
    exact WpC.ret ⟨_, rfl, rfl, _, _, .refl _, rfl, H2⟩
set_option maxRecDepth 20000 in
set_option maxHeartbeats 4000000 in
theorem comp_copied_ok : ∀ (n : Nat) (a1 : Tpl) (r : Tpl), comp_copied n a1 = some r → SpecC R cfg.P 26 [(encTpl a1)] (.d (encTpl r))
  | 0, a1, r, h => by simp [comp_copied] at h
  | n + 1, a1, r, h => by
    have ih := comp_copied_ok n
    unfold comp_copied at h
    refine SpecC.of_wp (objR2 E).toObjOk (C := cfgR2) Tryd.func26 rfl nm26 rfl ?_
    have H0 : Has pureSt pureSt [] := Has.pure
    refine WpC.seq ?_
    refine WpC.region (objR2 E) rfl ?_
    refine wpO.box H0 rfl rfl rfl (Tpl.cellsA _) rfl (fun b2 S3 H4 => ?_)
    refine wpO.alloc H4 rfl ob26R2 zo26 rfl rfl (fun b5 S6 H7 => ?_)
    refine wpO.nil ?_
    refine WpC.seq ?_
    refine WpC.region (objR2 E) rfl ?_
    refine wpO.val rfl (oper_fieldAddr rfl fo26_4 nz23 rfl) rfl ?_
    refine wpO.val rfl (oper_load H7 (i := 1) rfl rfl (part_one ag23 rfl)) rfl ?_
    obtain ⟨z8, hzz8, h⟩ := bind_some h
    refine wpO.ret rfl (oper_callF rfl rfl) (slices_Clone__api_Attr_api_Attr__ok E _ _ _ hzz8 _ _ (ArgsC.eq .nil)) rfl ?_
    refine wpO.val rfl (oper_fieldAddr rfl fo26_4 nz23 rfl) rfl ?_
    refine wpO.store H7 (i := 1) rfl rfl rfl rfl rfl rfl sz23 rfl as23 rfl rfl rfl (fun S9 H10 => ?_)
    refine wpO.nil ?_
    refine WpC.seq ?_
    refine WpC.region (objR2 E) rfl ?_
    refine wpO.val rfl (oper_fieldAddr rfl fo26_5 nz24 rfl) rfl ?_
    refine wpO.val rfl (oper_load H10 (i := 1) rfl rfl (part_one ag24 rfl)) rfl ?_
    obtain ⟨z11, hzz11, h⟩ := bind_some h
    refine wpO.retN H10 rfl (oper_callF rfl rfl) (slices_Clone__api_Tpl_api_Tpl__okN E n _ _ hzz11) (ArgsC.eq .nil) rfl ?_
    rintro v12 S13 _ rfl H14
    refine wpO.val rfl (oper_fieldAddr rfl fo26_5 nz24 rfl) rfl ?_
    refine wpO.store H14 (i := 2) rfl rfl rfl rfl (row_plain (H14.at (i := 0) rfl)).2 rfl sz24 (row_plain (H14.at (i := 0) rfl)).1 as24 rfl rfl rfl (fun S17 H18 => ?_)
    refine wpO.nil ?_
    refine WpC.seq ?_
    refine WpC.seq ?_
    refine WpC.region (objR2 E) rfl ?_
    refine wpO.val rfl (oper_fieldAddr rfl fo26_5 nz24 rfl) rfl ?_
    refine wpO.val rfl (oper_load H18 (i := 2) rfl rfl (part_one ag24 rfl)) rfl ?_
    refine wpO.val rfl (oper_lenR H18 (i := 0) rfl rfl es24) rfl ?_
    refine wpO.val rfl (oper_move rfl) rfl ?_
    refine wpO.nil ?_
    refine WpC.block ?_
    refine WpL.start (B := pureSt) (α := (List Tpl) × Int) (fun k a => comp_copied_l29 (comp_copied n) a1 z8 z11 k a.1 a.2 = some r) (fun a => [(1, (.ptr b2 0 0)), (2, (.ptr b5 0 0)), (14, v12), (15, (.d (.int .i64 ((z11).length : Int)))), (16, (.d (.int .i64 a.2)))]) (fun a => [.row 6 v12 ((a.1).map encTpl), .box b5 [(.d (.int .i64 0)), (.d (.int .i64 0)), (.d (.str [])), (.d (.str [])), (.d .nils), (.d .nils)], .box b2 [(.d (.int .i64 a1.Kind)), (.d (.int .i64 a1.N)), (.d (.str a1.Tag)), (.d (.str a1.Text)), (.d (.sl ((z8).map encAttr) false)), v12]]) ?_ ?_ n ⟨⟨z11, 0⟩, _, _, S17, .refl _ _, .refl _, (WeakE.cons rfl (.refl _) (WeakE.cons rfl (.refl _) (WeakE.cons rfl (.refl _) (WeakE.cons rfl (.refl _) (WeakE.cons rfl (.refl _) WeakE.nil))))), H18.sel [0, 1, 2] (by decide) rfl, h⟩
    · intro a h; simp [comp_copied_l29] at h
    ·
      intro k29 a S25 H26 h
      obtain ⟨x27, x28⟩ := a
      replace h : comp_copied_l29 (comp_copied n) a1 z8 z11 (k29 + 1) x27 x28 = some r := h
      replace H26 : Has pureSt S25 [.row 6 v12 ((x27).map encTpl), .box b5 [(.d (.int .i64 0)), (.d (.int .i64 0)), (.d (.str [])), (.d (.str [])), (.d .nils), (.d .nils)], .box b2 [(.d (.int .i64 a1.Kind)), (.d (.int .i64 a1.N)), (.d (.str a1.Tag)), (.d (.str a1.Text)), (.d (.sl ((z8).map encAttr) false)), v12]] := H26
      unfold comp_copied_l29 at h
      refine WpC.seq ?_
      refine WpC.region (objR2 E) rfl ?_
      refine wpO.val rfl (oper_bin rfl rfl binD_lss) rfl ?_
      refine wpO.nil ?_
      refine WpC.seq ?_
      refine WpC.cond rfl (fun hb30 => ?_) (fun hb30 => ?_)
      ·
        replace h := if_t hb30 h
        refine WpC.skip ?_
        refine WpC.seq ?_
        refine WpC.block ?_
        refine WpC.seq ?_
        refine WpC.region (objR2 E) rfl ?_
        refine wpO.val rfl (oper_move rfl) rfl ?_
        obtain ⟨z31, hzz31, h⟩ := bind_some h
        refine wpO.rowIdxP (enc := encTpl) H26 rfl (i := 0) rfl rfl rfl hzz31 el24 as26 ((Tpl.len _).trans sz26.symm) rfl ?_
        refine wpO.rowLoadP H26 rfl (i := 0) rfl hzz31 rfl (Tpl.partW ag26 sz26) rfl ?_
        refine wpO.alloc H26 rfl ob26R2 zo26 rfl rfl (fun b32 S33 H34 => ?_)
        refine wpO.val rfl (oper_assign rfl) rfl ?_
        refine wpO.store H34 (i := 0) rfl rfl rfl rfl (Tpl.cellsA _) rfl sz26 rfl as26 rfl rfl rfl (fun S35 H36 => ?_)
        refine wpO.nil ?_
        obtain ⟨z37, hzz37, h⟩ := bind_some h
        obtain ⟨z38, hzz38, h⟩ := bind_some h
        refine WpC.drawP (objR2 E) hmix [[(1, none)], [(21, some 0)], [(3, none)], [(4, none)], [(24, some 3)], [(22, some 1), (23, some 2)], [(25, some 4), (26, some 5)]] [(1, none), (2, none), (14, none), (15, none), (16, none)] (by kernel_rfl) [6] (by decide) [some (.ptr b2 0 5), some v12, some (.d (.int .i64 x28)), some (.d (encTpl z31)), some (.d (encTpl z37)), some (rowPtr v12 (Int.toNat x28) 0), none] ?_
        refine ⟨[0, 1, 2, 3, 4, 5], by kernel_rfl, ?_, _, _, rfl, rfl, .step ?_⟩
        ·
          refine .cons rfl rfl rfl (.step ?_) ?_
          ·
            refine wpO.val rfl (oper_fieldAddr rfl fo26_5 nz24 rfl) rfl ?_
            exact wpO.nil ⟨_, _, rfl, fun _ ht => by cases ht; exact ⟨rfl, .refl _⟩⟩
          refine .cons rfl rfl rfl (.step ?_) ?_
          ·
            refine wpO.val rfl (oper_load H36 (i := 3) rfl rfl (part_one ag24 rfl)) rfl ?_
            exact wpO.nil ⟨_, _, rfl, fun _ ht => by cases ht; exact ⟨rfl, .refl _⟩⟩
          refine .cons rfl rfl rfl (.step ?_) ?_
          ·
            refine wpO.val rfl (oper_move rfl) rfl ?_
            exact wpO.nil ⟨_, _, rfl, fun _ ht => by cases ht; exact ⟨rfl, .refl _⟩⟩
          refine .cons rfl rfl rfl (.step ?_) ?_
          ·
            refine wpO.val rfl (oper_load H36 (i := 0) rfl rfl (part_agg ag26 sz26 rfl)) rfl ?_
            refine wpO.less (Less.agg' (d := encTpl z31) (CellsC.eq rfl (CellsC.eq rfl (CellsC.eq rfl (CellsC.eq rfl (CellsC.eq rfl (CellsC.eq rfl .nil)))))) ((Tpl.eq _).trans rfl)) ?_
            exact wpO.nil ⟨_, _, rfl, fun _ ht => by cases ht; exact ⟨rfl, .refl _⟩⟩
          refine .cons rfl rfl rfl (.step ?_) ?_
          ·
            refine wpO.ret rfl (oper_callF rfl rfl) (ih _ _ hzz37 _ _ (ArgsC.eq .nil)) rfl ?_
            exact wpO.nil ⟨_, _, rfl, fun _ ht => by cases ht; exact ⟨rfl, .refl _⟩⟩
          refine .cons rfl rfl rfl (.step ?_) ?_
          ·
            refine wpO.rowIdxP (enc := encTpl) H36 rfl (i := 1) rfl rfl rfl hzz38 el24 as26 ((Tpl.len _).trans sz26.symm) rfl ?_
            exact wpO.nil ⟨_, _, rfl, fun _ ht => by cases ht; exact ⟨rfl, .refl _⟩⟩
          exact .nil
        refine wpO.rowStoreP (enc := encTpl) (z' := z37) (cv := [(.int .i64 z37.Kind), (.int .i64 z37.N), (.str z37.Tag), (.str z37.Text), (.sl ((z37.Attrs).map encAttr) false), (.sl ((z37.Kids).map encTpl) false)]) H36 rfl (i := 1) rfl hzz38 rfl rfl (Tpl.cellsA _) (.refl _) sz26 rfl as26 (by rw [Tpl.len]; rfl) (by rw [Tpl.cells, Tpl.cells]; rfl) (Tpl.flat _) (fun S41 H42 => ?_)
        refine wpO.nil ⟨_, .any, _, rfl, (fun _ ht => by cases ht), [some (.ptr b2 0 5), some v12, some (.d (.int .i64 x28)), some (.d (encTpl z31)), some (.d (encTpl z37)), some (rowPtr v12 (Int.toNat x28) 0), some .any], (.old (.refl _) (.old (.refl _) (.old (.refl _) (.old (.refl _) (.old (.refl _) (.old (.refl _) (.new .nil))))))), (fun _ ht => by cases ht), ?_⟩
        refine ⟨[], by kernel_rfl, ?_, _, rfl, ?_⟩
        ·
          exact .nil
        refine WpC.region (objR2 E) rfl ?_
        refine wpO.val rfl (oper_bin rfl rfl binD_add) rfl ?_
        refine wpO.val rfl (oper_move rfl) rfl ?_
        refine wpO.nil ?_
        exact ⟨⟨(setI x27 x28 z37), (IntKind.wrap .i64 (x28 + 1))⟩, _, _, S41, .refl _ _, .refl _, (WeakE.cons rfl (.refl _) (WeakE.cons rfl (.refl _) (WeakE.cons rfl (.refl _) (WeakE.cons rfl (.refl _) (WeakE.cons rfl (.refl _) WeakE.nil))))), H42.sel [1, 2, 3] (by decide) rfl, h⟩
      ·
        replace h := if_f hb30 h
        refine WpC.exit ?_
        refine WpC.seq ?_
        refine WpC.region (objR2 E) rfl ?_
        refine wpO.val rfl (oper_load H26 (i := 2) rfl rfl (part_agg ag26 sz26 rfl)) rfl ?_
        refine wpO.store H26 (i := 1) rfl rfl rfl rfl (mkAgg_cells _) rfl sz26 (mkAgg_plain _) as26 rfl rfl rfl (fun S43 H44 => ?_)
        refine wpO.nil ?_
        obtain ⟨SF1, HF1, hgF1⟩ := H44.freeze (objR2 E).toObjOk (i := 0) (l' := [.box b5 [(.d (.int .i64 a1.Kind)), (.d (.int .i64 a1.N)), (.d (.str a1.Tag)), (.d (.str a1.Text)), (.d (.sl ((z8).map encAttr) false)), (.d (.sl ((x27).map encTpl) false))], .box b2 [(.d (.int .i64 a1.Kind)), (.d (.int .i64 a1.N)), (.d (.str a1.Tag)), (.d (.str a1.Text)), (.d (.sl ((z8).map encAttr) false)), (.d (.sl ((x27).map encTpl) false))]]) rfl (.box (.cons (.same _) (.cons (.same _) (.cons (.same _) (.cons (.same _) (.cons (.same _) (.cons .it .nil)))))) (.box (.cons (.same _) (.cons (.same _) (.cons (.same _) (.cons (.same _) (.cons (.same _) (.cons .it .nil)))))) .nil))
        refine WpC.ghost (hgF1 _ _ [(1, (.ptr b2 0 0)), (2, (.ptr b5 0 0)), (14, (.d (.sl ((x27).map encTpl) false))), (15, (.d (.int .i64 ((z11).length : Int)))), (16, (.d (.int .i64 x28))), (17, (.d (.bool (decide (x28 < ((z11).length : Int))))))] (.cons rfl (.refl _) (.cons rfl (.refl _) (.it rfl (.cons rfl (.refl _) (.cons rfl (.refl _) (.cons rfl (.refl _) .nil))))))) ?_
        have hr := Option.some.inj h
        subst hr
        exact WpC.ret ⟨_, resultsE_cell HF1 (i := 0) rfl rfl rfl (part_agg ag26 sz26 rfl), rfl, end1 (ArgsC.less_agg (d := encTpl (Tpl.mk a1.Kind a1.N a1.Tag a1.Text z8 x27)) (CellsC.eq rfl (CellsC.eq rfl (CellsC.eq rfl (CellsC.eq rfl (CellsC.eq rfl (CellsC.eq rfl .nil)))))) ((Tpl.eq _).trans rfl))⟩
theorem slices_Clone__api_On_api_On__ok (n : Nat) (a1 : (List On)) (r : (List On)) (h : slices_Clone__api_On_api_On_ n a1 = some r) : SpecC R cfg.P 27 [(.sl ((a1).map encOn) false)] (.d (.sl ((r).map encOn) false)) := by
  unfold slices_Clone__api_On_api_On_ at h
  refine SpecC.of_wp E.obj.toObjOk (C := cfg) Tryd.func27 rfl nm27 rfl ?_
  have H0 : Has pureSt pureSt [] := Has.pure
  refine WpC.seq ?_
  refine WpC.region E.obj rfl ?_
  refine wpO.val rfl (oper_assign rfl) rfl ?_
  refine wpO.nil ?_
  refine WpC.seq ?_
  refine WpC.seq ?_
  refine WpC.region E.obj rfl ?_
  refine wpO.val rfl (oper_move rfl) rfl ?_
  refine wpO.eqNil rfl rfl rfl us30s rfl (fun bb hbb => ?_)
  refine wpO.nil ?_
  refine WpC.cond rfl (fun hb => ?_) (fun hb => ?_)
  · have e := map_nil (hbb hb)
    subst e
    have hr := (app_some h).2
    subst hr
    refine WpC.seq ?_
    refine WpC.region E.obj rfl ?_
    refine wpO.val rfl (oper_assign rfl) rfl ?_
    refine wpO.nil ?_
    exact WpC.ret ⟨_, rfl, rfl, end1 (ArgsC.consW rfl (.nils false) .nil)⟩
  · refine WpC.skip ?_
    refine WpC.seq ?_
    refine WpC.region E.obj rfl ?_
    refine wpO.val rfl (oper_buildSlice0 rw30 el30 ag29) rfl ?_
    refine wpO.val rfl (oper_move rfl) rfl ?_
    have H1 := H0.tightG (([] : (List On)).map encOn)
    refine wpO.append (xs := ([] : (List On)).map encOn) (ys := (a1).map encOn) (zs := (r).map encOn) H1 rfl rfl rfl (i := 0) rfl rfl rw30 os30 el30 (app_bound (enc := encOn) h) nb29 rfl (sizes_map (enc := encOn) (fun z => (On.len z).trans sz29.symm) _) (sizes_map (enc := encOn) (fun z => (On.len z).trans sz29.symm) _) zk29 rfl (app_eq h) (fun v2 S2 H2 => ?_)
    refine wpO.val rfl (oper_assign rfl) rfl ?_
    refine wpO.nil ?_
    exact WpC.ret ⟨_, rfl, rfl, end1 (ArgsC.grow H2 (i := 0) rfl .nil)⟩
set_option maxRecDepth 20000 in
set_option maxHeartbeats 4000000 in
theorem comp_From_ok (n : Nat) (a1 : Comp) (a2 : (List Int)) (r : (Option comp_Instance)) (h : comp_From n a1 a2 = some r) : SpecM R cfg.P 15 [.d (encComp a1), .d (.sl ((a2).map (D.int .i64)) false)] [] (fun v l => match r with | none => v = .d .nilp ∧ l = [] | some x => ∃ b, v = .ptr b 0 0 ∧ l = .box b [.d (.int .i64 x.tpl.Kind), .d (.int .i64 x.tpl.N), .d (.str x.tpl.Tag), .d (.str x.tpl.Text), .d (.sl ((x.tpl.Attrs).map encAttr) false), .d (.sl ((x.tpl.Kids).map encTpl) false), .d (.sl ((x.on_).map encOn) false), .d (.sl ((x.state).map (D.int .i64)) false)] :: []) := by
  unfold comp_From at h
  refine SpecM.of_wp (C := cfg) Tryd.func15 rfl nm15 rfl (fun B0 S0 H0 => ?_)
  replace H0 : Has B0 S0 [] := H0
  refine WpC.seq ?_
  refine WpC.region E.obj rfl ?_
  refine wpO.box H0 rfl rfl rfl (Comp.cellsA _) rfl (fun b3 S4 H5 => ?_)
  refine wpO.val rfl (oper_assign rfl) rfl ?_
  refine wpO.nil ?_
  refine WpC.seq ?_
  refine WpC.seq ?_
  refine WpC.region E.obj rfl ?_
  refine wpO.val rfl (oper_load H5 (i := 0) rfl rfl (part_agg ag32 sz32 rfl)) rfl ?_
  refine wpO.less (Less.agg' (d := encComp a1) (CellsC.eq rfl (CellsC.eq rfl (CellsC.eq rfl (CellsC.eq rfl (CellsC.eq rfl (CellsC.eq rfl (CellsC.eq rfl (CellsC.eq rfl .nil)))))))) ((Comp.eq _).trans rfl)) ?_
  obtain ⟨z6, hzz6, h⟩ := bind_some h
  refine wpO.ret rfl (oper_callF rfl rfl) (comp_Right_ok E _ _ _ hzz6 _ _ (ArgsC.eq .nil)) rfl ?_
  refine wpO.val rfl (oper_not rfl) rfl ?_
  refine wpO.val rfl (oper_move rfl) rfl ?_
  refine wpO.groupV 7 15 (.d (.bool ((!z6) || (((a2).length : Int) != ((a1.Init).length : Int))))) ?_ ?_
  ·
    rcases Bool.eq_false_or_eq_true ((!z6)) with hB7 | hB7
    ·
      refine wpO.bool hB7 ?_
      refine wpO.no rfl rfl ?_
      refine wpO.no rfl rfl ?_
      refine wpO.no rfl rfl ?_
      refine wpO.no rfl rfl ?_
      refine wpO.no rfl rfl ?_
      refine wpO.no rfl rfl ?_
      refine wpO.val rfl (oper_pick (b := true) rfl rfl) rfl ?_
      exact wpO.nil ⟨_, rfl, (WeakE.put (WeakE.push rfl (WeakE.push rfl (WeakE.push rfl (WeakE.push rfl (WeakE.push rfl (WeakE.push rfl (WeakE.put (.refl _) (Less.eq (by rw [hB7]))))))))) (Less.eq (by rw [hB7]; rw [Bool.true_or])))⟩
    ·
      refine wpO.bool hB7 ?_
      refine wpO.val rfl (oper_move rfl) rfl ?_
      refine wpO.val rfl (oper_lenL rfl es27) rfl ?_
      refine wpO.val rfl (oper_fieldAddr rfl fo32_1 nz27 rfl) rfl ?_
      refine wpO.val rfl (oper_load H5 (i := 0) rfl rfl (part_one ag27 rfl)) rfl ?_
      refine wpO.val rfl (oper_lenL rfl es27) rfl ?_
      refine wpO.val rfl (oper_bin rfl rfl binD_neq) rfl ?_
      refine wpO.val rfl (oper_pick (b := false) rfl rfl) rfl ?_
      exact wpO.nil ⟨_, rfl, (WeakE.put (WeakE.push rfl (WeakE.push rfl (WeakE.push rfl (WeakE.push rfl (WeakE.push rfl (WeakE.push rfl (WeakE.put (.refl _) (Less.eq (by rw [hB7]))))))))) (Less.eq (by rw [hB7]; rw [Bool.false_or])))⟩
  ·
    refine wpO.val rfl (oper_move rfl) rfl ?_
    obtain ⟨z9, hzz9, h⟩ := bind_some h
    refine wpO.groupV 4 20 (.d (.bool z9)) ?_ ?_
    ·
      rcases Bool.eq_false_or_eq_true (((!z6) || (((a2).length : Int) != ((a1.Init).length : Int)))) with hB8 | hB8
      ·
        refine wpO.bool hB8 ?_
        refine wpO.no rfl rfl ?_
        refine wpO.no rfl rfl ?_
        refine wpO.no rfl rfl ?_
        refine wpO.val rfl (oper_pick (b := true) rfl rfl) rfl ?_
        replace hzz9 := if_t hB8 hzz9
        cases hzz9
        exact wpO.nil ⟨_, rfl, (WeakE.put (WeakE.push rfl (WeakE.push rfl (WeakE.push rfl (WeakE.put (.refl _) (Less.eq (by rw [hB8])))))) (.refl _))⟩
      ·
        refine wpO.bool hB8 ?_
        replace hzz9 := if_f hB8 hzz9
        refine wpO.val rfl (oper_move rfl) rfl ?_
        obtain ⟨z10, hzz10, hzz9⟩ := bind_some hzz9
        refine wpO.ret rfl (oper_callF rfl rfl) (comp_all_ok E _ _ _ hzz10 _ _ (ArgsC.eq .nil)) rfl ?_
        refine wpO.val rfl (oper_not rfl) rfl ?_
        refine wpO.val rfl (oper_pick (b := false) rfl rfl) rfl ?_
        cases hzz9
        exact wpO.nil ⟨_, rfl, (WeakE.put (WeakE.push rfl (WeakE.push rfl (WeakE.push rfl (WeakE.put (.refl _) (Less.eq (by rw [hB8])))))) (.refl _))⟩
    ·
      refine wpO.nil ?_
      refine WpC.cond rfl (fun hb11 => ?_) (fun hb11 => ?_)
      ·
        replace h := if_t hb11 h
        refine WpC.seq ?_
        refine WpC.region E.obj rfl ?_
        refine wpO.val rfl (oper_assign rfl) rfl ?_
        refine wpO.nil ?_
        have hr := Option.some.inj h
        subst hr
        exact WpC.ret ⟨_, rfl, rfl, _, _, _, .refl _, (.refl _), ⟨rfl, rfl⟩, H5.sel [] (by decide) rfl⟩
      ·
        replace h := if_f hb11 h
        refine WpC.skip ?_
        refine WpC.seq ?_
        obtain ⟨z12, hzz12, h⟩ := bind_some h
        obtain ⟨z13, hzz13, h⟩ := bind_some h
        obtain ⟨z14, hzz14, h⟩ := bind_some h
        refine WpC.drawP E.obj hmix [[(2, none)], [(21, some 0)], [(22, some 1)], [(2, none)], [(24, some 3)], [(25, some 4)], [(1, none)], [(27, some 6)], [(23, some 2), (26, some 5), (28, some 7)], [(29, some 8)], [(30, some 9)]] [(4, some 10)] (by kernel_rfl) [9] (by decide) [some (.ptr b3 0 0), some (.d (encTpl a1.Tpl)), some (.d (encTpl z12)), some (.ptr b3 0 7), some (.d (.sl ((a1.On).map encOn) false)), some (.d (.sl ((z13).map encOn) false)), some (.d (.sl ((a2).map (D.int .i64)) false)), some (.d (.sl ((z14).map (D.int .i64)) false)), some (.d (enccomp_Instance (comp_Instance.mk z12 z13 z14))), none, none] ?_
        refine ⟨[0, 1, 2, 3, 4, 5, 6, 7, 8], by kernel_rfl, ?_, _, _, rfl, rfl, .step ?_⟩
        ·
          refine .cons rfl rfl rfl (.step ?_) ?_
          ·
            refine wpO.val rfl (oper_fieldAddr rfl fo32_0 nz26 rfl) rfl ?_
            exact wpO.nil ⟨_, _, rfl, fun _ ht => by cases ht; exact ⟨rfl, .refl _⟩⟩
          refine .cons rfl rfl rfl (.step ?_) ?_
          ·
            refine wpO.val rfl (oper_load H5 (i := 0) rfl rfl (part_agg ag26 sz26 rfl)) rfl ?_
            refine wpO.less (Less.agg' (d := encTpl a1.Tpl) (CellsC.eq rfl (CellsC.eq rfl (CellsC.eq rfl (CellsC.eq rfl (CellsC.eq rfl (CellsC.eq rfl .nil)))))) ((Tpl.eq _).trans rfl)) ?_
            exact wpO.nil ⟨_, _, rfl, fun _ ht => by cases ht; exact ⟨rfl, .refl _⟩⟩
          refine .cons rfl rfl rfl (.step ?_) ?_
          ·
            refine wpO.ret rfl (oper_callF rfl rfl) (comp_copied_ok E _ _ _ hzz12 _ _ (ArgsC.eq .nil)) rfl ?_
            exact wpO.nil ⟨_, _, rfl, fun _ ht => by cases ht; exact ⟨rfl, .refl _⟩⟩
          refine .cons rfl rfl rfl (.step ?_) ?_
          ·
            refine wpO.val rfl (oper_fieldAddr rfl fo32_2 nz30 rfl) rfl ?_
            exact wpO.nil ⟨_, _, rfl, fun _ ht => by cases ht; exact ⟨rfl, .refl _⟩⟩
          refine .cons rfl rfl rfl (.step ?_) ?_
          ·
            refine wpO.val rfl (oper_load H5 (i := 0) rfl rfl (part_one ag30 rfl)) rfl ?_
            exact wpO.nil ⟨_, _, rfl, fun _ ht => by cases ht; exact ⟨rfl, .refl _⟩⟩
          refine .cons rfl rfl rfl (.step ?_) ?_
          ·
            refine wpO.ret rfl (oper_callF rfl rfl) (slices_Clone__api_On_api_On__ok E _ _ _ hzz13 _ _ (ArgsC.eq .nil)) rfl ?_
            exact wpO.nil ⟨_, _, rfl, fun _ ht => by cases ht; exact ⟨rfl, .refl _⟩⟩
          refine .cons rfl rfl rfl (.step ?_) ?_
          ·
            refine wpO.val rfl (oper_move rfl) rfl ?_
            exact wpO.nil ⟨_, _, rfl, fun _ ht => by cases ht; exact ⟨rfl, .refl _⟩⟩
          refine .cons rfl rfl rfl (.step ?_) ?_
          ·
            refine wpO.ret rfl (oper_callF rfl rfl) (slices_Clone__int_int__ok E _ _ _ hzz14 _ _ (ArgsC.eq .nil)) rfl ?_
            exact wpO.nil ⟨_, _, rfl, fun _ ht => by cases ht; exact ⟨rfl, .refl _⟩⟩
          refine .cons rfl rfl rfl (.step ?_) ?_
          ·
            refine wpO.val rfl (oper_build (cs := [(.d (.int .i64 z12.Kind)), (.d (.int .i64 z12.N)), (.d (.str z12.Tag)), (.d (.str z12.Text)), (.d (.sl ((z12.Attrs).map encAttr) false)), (.d (.sl ((z12.Kids).map encTpl) false)), (.d (.sl ((z13).map encOn) false)), (.d (.sl ((z14).map (D.int .i64)) false))]) zo53 rfl (place_struct53) (fill1 rfl (cellsP_d (Tpl.cellsA _)) rfl rfl (fill1 rfl rfl rfl rfl (fill1 rfl rfl rfl rfl rfl)))) rfl ?_
            refine wpO.less (Less.agg' (d := enccomp_Instance (comp_Instance.mk z12 z13 z14)) (CellsC.eq rfl (CellsC.eq rfl (CellsC.eq rfl (CellsC.eq rfl (CellsC.eq rfl (CellsC.eq rfl (CellsC.eq rfl (CellsC.eq rfl .nil)))))))) ((comp_Instance.eq _).trans rfl)) ?_
            exact wpO.nil ⟨_, _, rfl, fun _ ht => by cases ht; exact ⟨rfl, .refl _⟩⟩
          exact .nil
        refine wpO.box H5 rfl rfl rfl (comp_Instance.cellsA _) rfl (fun b18 S19 H20 => ?_)
        refine wpO.nil ⟨_, _, _, rfl, (fun _ ht => by cases ht; rfl), [some (.ptr b3 0 0), some (.d (encTpl a1.Tpl)), some (.d (encTpl z12)), some (.ptr b3 0 7), some (.d (.sl ((a1.On).map encOn) false)), some (.d (.sl ((z13).map encOn) false)), some (.d (.sl ((a2).map (D.int .i64)) false)), some (.d (.sl ((z14).map (D.int .i64)) false)), some (.d (enccomp_Instance (comp_Instance.mk z12 z13 z14))), some (.ptr b18 0 0), some (.ptr b18 0 0)], (.old (.refl _) (.old (.refl _) (.old (.refl _) (.old (.refl _) (.old (.refl _) (.old (.refl _) (.old (.refl _) (.old (.refl _) (.old (.refl _) (.new (.new .nil))))))))))), (fun _ ht => by cases ht; exact ⟨_, rfl, .refl _⟩), ?_⟩
        refine ⟨[10], by kernel_rfl, ?_, _, rfl, ?_⟩
        ·
          refine .cons rfl rfl rfl (.step ?_) ?_
          ·
            refine wpO.val rfl (oper_assign rfl) rfl ?_
            exact wpO.nil ⟨_, _, rfl, fun _ ht => by cases ht; exact ⟨rfl, .refl _⟩⟩
          exact .nil
        have hr := Option.some.inj h
        subst hr
        exact WpC.ret ⟨_, rfl, rfl, _, _, _, .refl _, (.refl _), ⟨_, rfl, rfl⟩, H20.sel [0] (by decide) rfl⟩
set_option maxRecDepth 20000 in
set_option maxHeartbeats 4000000 in
theorem comp_New_ok (n : Nat) (a1 : Comp) (r : (Option comp_Instance)) (h : comp_New n a1 = some r) : SpecM R cfg.P 6 [.d (encComp a1)] [] (fun v l => match r with | none => v = .d .nilp ∧ l = [] | some x => ∃ b, v = .ptr b 0 0 ∧ l = .box b [.d (.int .i64 x.tpl.Kind), .d (.int .i64 x.tpl.N), .d (.str x.tpl.Tag), .d (.str x.tpl.Text), .d (.sl ((x.tpl.Attrs).map encAttr) false), .d (.sl ((x.tpl.Kids).map encTpl) false), .d (.sl ((x.on_).map encOn) false), .d (.sl ((x.state).map (D.int .i64)) false)] :: []) := by
  unfold comp_New at h
  refine SpecM.of_wp (C := cfg) Tryd.func6 rfl nm6 rfl (fun B0 S0 H0 => ?_)
  replace H0 : Has B0 S0 [] := H0
  refine WpC.seq ?_
  refine WpC.region E.obj rfl ?_
  refine wpO.box H0 rfl rfl rfl (Comp.cellsA _) rfl (fun b2 S3 H4 => ?_)
  refine wpO.val rfl (oper_assign rfl) rfl ?_
  refine wpO.nil ?_
  refine WpC.seq ?_
  refine WpC.region E.obj rfl ?_
  refine wpO.val rfl (oper_load H4 (i := 0) rfl rfl (part_agg ag32 sz32 rfl)) rfl ?_
  refine wpO.less (Less.agg' (d := encComp a1) (CellsC.eq rfl (CellsC.eq rfl (CellsC.eq rfl (CellsC.eq rfl (CellsC.eq rfl (CellsC.eq rfl (CellsC.eq rfl (CellsC.eq rfl .nil)))))))) ((Comp.eq _).trans rfl)) ?_
  refine wpO.val rfl (oper_fieldAddr rfl fo32_1 nz27 rfl) rfl ?_
  refine wpO.val rfl (oper_load H4 (i := 0) rfl rfl (part_one ag27 rfl)) rfl ?_
  obtain ⟨z5, hzz5, h⟩ := bind_some h
  refine wpO.retM (ins := []) (more := [.box b2 [(.d (.int .i64 a1.Tpl.Kind)), (.d (.int .i64 a1.Tpl.N)), (.d (.str a1.Tpl.Tag)), (.d (.str a1.Tpl.Text)), (.d (.sl ((a1.Tpl.Attrs).map encAttr) false)), (.d (.sl ((a1.Tpl.Kids).map encTpl) false)), (.d (.sl ((a1.Init).map (D.int .i64)) false)), (.d (.sl ((a1.On).map encOn) false))]]) (H4.sel [0] (by decide) rfl) rfl (oper_callF rfl rfl) (comp_From_ok E n _ _ _ hzz5 ) (.cons (.refl _) (.cons (.refl _) .nil)) rfl ?_
  rintro v6 S7 l8 hr9 H10
  rcases z5 with _ | x11
  ·
    obtain ⟨rfl, rfl⟩ := hr9
    replace h := optN h
    replace H10 : Has B0 S7 [.box b2 [(.d (.int .i64 a1.Tpl.Kind)), (.d (.int .i64 a1.Tpl.N)), (.d (.str a1.Tpl.Tag)), (.d (.str a1.Tpl.Text)), (.d (.sl ((a1.Tpl.Attrs).map encAttr) false)), (.d (.sl ((a1.Tpl.Kids).map encTpl) false)), (.d (.sl ((a1.Init).map (D.int .i64)) false)), (.d (.sl ((a1.On).map encOn) false))]] := H10
    refine wpO.val rfl (oper_assign rfl) rfl ?_
    refine wpO.nil ?_
    have hr := Option.some.inj h
    subst hr
    exact WpC.ret ⟨_, rfl, rfl, _, _, _, .refl _, (.refl _), ⟨rfl, rfl⟩, H10.sel [] (by decide) rfl⟩
  ·
    obtain ⟨b12, rfl, rfl⟩ := hr9
    replace h := optS h
    replace H10 : Has B0 S7 [.box b12 [(.d (.int .i64 x11.tpl.Kind)), (.d (.int .i64 x11.tpl.N)), (.d (.str x11.tpl.Tag)), (.d (.str x11.tpl.Text)), (.d (.sl ((x11.tpl.Attrs).map encAttr) false)), (.d (.sl ((x11.tpl.Kids).map encTpl) false)), (.d (.sl ((x11.on_).map encOn) false)), (.d (.sl ((x11.state).map (D.int .i64)) false))], .box b2 [(.d (.int .i64 a1.Tpl.Kind)), (.d (.int .i64 a1.Tpl.N)), (.d (.str a1.Tpl.Tag)), (.d (.str a1.Tpl.Text)), (.d (.sl ((a1.Tpl.Attrs).map encAttr) false)), (.d (.sl ((a1.Tpl.Kids).map encTpl) false)), (.d (.sl ((a1.Init).map (D.int .i64)) false)), (.d (.sl ((a1.On).map encOn) false))]] := H10
    refine wpO.val rfl (oper_assign rfl) rfl ?_
    refine wpO.nil ?_
    have hr := Option.some.inj h
    subst hr
    exact WpC.ret ⟨_, rfl, rfl, _, _, _, .refl _, (.refl _), ⟨_, rfl, rfl⟩, H10.sel [0] (by decide) rfl⟩
set_option maxRecDepth 20000 in
set_option maxHeartbeats 4000000 in
theorem comp_Instance_State_ok (n : Nat) (a2 : comp_Instance) (r : (List Int)) (h : comp_Instance_State n a2 = some r) (b1 : Nat) : SpecM R cfg.P 9 [.ptr b1 0 0] [.box b1 [(.d (.int .i64 a2.tpl.Kind)), (.d (.int .i64 a2.tpl.N)), (.d (.str a2.tpl.Tag)), (.d (.str a2.tpl.Text)), (.d (.sl ((a2.tpl.Attrs).map encAttr) false)), (.d (.sl ((a2.tpl.Kids).map encTpl) false)), (.d (.sl ((a2.on_).map encOn) false)), (.d (.sl ((a2.state).map (D.int .i64)) false))]] (fun v l => v = .d (.sl ((r).map (D.int .i64)) false) ∧ l = [.box b1 [.d (.int .i64 a2.tpl.Kind), .d (.int .i64 a2.tpl.N), .d (.str a2.tpl.Tag), .d (.str a2.tpl.Text), .d (.sl ((a2.tpl.Attrs).map encAttr) false), .d (.sl ((a2.tpl.Kids).map encTpl) false), .d (.sl ((a2.on_).map encOn) false), .d (.sl ((a2.state).map (D.int .i64)) false)]]) := by
  unfold comp_Instance_State at h
  refine SpecM.of_wp (C := cfgR1) Tryd.func9 rfl nm9 rfl (fun B0 S0 H0 => ?_)
  replace H0 : Has B0 S0 [.box b1 [(.d (.int .i64 a2.tpl.Kind)), (.d (.int .i64 a2.tpl.N)), (.d (.str a2.tpl.Tag)), (.d (.str a2.tpl.Text)), (.d (.sl ((a2.tpl.Attrs).map encAttr) false)), (.d (.sl ((a2.tpl.Kids).map encTpl) false)), (.d (.sl ((a2.on_).map encOn) false)), (.d (.sl ((a2.state).map (D.int .i64)) false))]] := H0
  refine WpC.seq ?_
  refine WpC.region (objR1 E) rfl ?_
  refine wpO.val rfl (oper_assign rfl) rfl ?_
  refine wpO.nil ?_
  refine WpC.seq ?_
  refine WpC.region (objR1 E) rfl ?_
  refine wpO.val rfl (oper_move rfl) rfl ?_
  refine wpO.val rfl (oper_nilCheck rfl) rfl ?_
  refine wpO.val rfl (oper_fieldAddr rfl fo53_2 nz27 rfl) rfl ?_
  refine wpO.val rfl (oper_load H0 (i := 0) rfl rfl (part_one ag27 rfl)) rfl ?_
  obtain ⟨z3, hzz3, h⟩ := bind_some h
  refine wpO.retN H0 rfl (oper_callF rfl rfl) (slices_Clone__int_int__okN E n _ _ hzz3) (ArgsC.eq .nil) rfl ?_
  rintro v4 S5 _ rfl H6
  refine wpO.val rfl (oper_assign rfl) rfl ?_
  refine wpO.nil ?_
  obtain ⟨SF1, HF1, hgF1⟩ := H6.freeze (objR1 E).toObjOk (i := 0) (l' := [.box b1 [(.d (.int .i64 a2.tpl.Kind)), (.d (.int .i64 a2.tpl.N)), (.d (.str a2.tpl.Tag)), (.d (.str a2.tpl.Text)), (.d (.sl ((a2.tpl.Attrs).map encAttr) false)), (.d (.sl ((a2.tpl.Kids).map encTpl) false)), (.d (.sl ((a2.on_).map encOn) false)), (.d (.sl ((a2.state).map (D.int .i64)) false))]]) rfl (.same .nil)
  refine WpC.ghost (hgF1 _ _ [(0, (.ptr b1 0 0)), (2, (.d (.sl ((z3).map (D.int .i64)) false))), (3, (.ptr b1 0 0)), (4, (.ptr b1 0 0)), (5, (.ptr b1 0 7)), (6, (.d (.sl ((a2.state).map (D.int .i64)) false))), (7, (.d (.sl ((z3).map (D.int .i64)) false)))] (.cons rfl (.refl _) (.it rfl (.cons rfl (.refl _) (.cons rfl (.refl _) (.cons rfl (.refl _) (.cons rfl (.refl _) (.it rfl .nil)))))))) ?_
  have hr := Option.some.inj h
  subst hr
  exact WpC.ret ⟨_, rfl, rfl, _, _, _, .refl _, (.refl _), ⟨rfl, rfl⟩, HF1.sel [0] (by decide) rfl⟩
set_option maxRecDepth 20000 in
set_option maxHeartbeats 4000000 in
theorem comp_Instance_State_okN (n : Nat) (a2 : comp_Instance) (r : (List Int)) (h : comp_Instance_State n a2 = some r) (b1 : Nat) : SpecM R cfg.P 9 [.ptr b1 0 0] [.box b1 [(.d (.int .i64 a2.tpl.Kind)), (.d (.int .i64 a2.tpl.N)), (.d (.str a2.tpl.Tag)), (.d (.str a2.tpl.Text)), (.d (.sl ((a2.tpl.Attrs).map encAttr) false)), (.d (.sl ((a2.tpl.Kids).map encTpl) false)), (.d (.sl ((a2.on_).map encOn) false)), (.d (.sl ((a2.state).map (D.int .i64)) false))]] (fun v l => l = .row 1 v ((r).map (D.int .i64)) :: [.box b1 [.d (.int .i64 a2.tpl.Kind), .d (.int .i64 a2.tpl.N), .d (.str a2.tpl.Tag), .d (.str a2.tpl.Text), .d (.sl ((a2.tpl.Attrs).map encAttr) false), .d (.sl ((a2.tpl.Kids).map encTpl) false), .d (.sl ((a2.on_).map encOn) false), .d (.sl ((a2.state).map (D.int .i64)) false)]]) := by
  unfold comp_Instance_State at h
  refine SpecM.of_wp (C := cfgR1) Tryd.func9 rfl nm9 rfl (fun B0 S0 H0 => ?_)
  replace H0 : Has B0 S0 [.box b1 [(.d (.int .i64 a2.tpl.Kind)), (.d (.int .i64 a2.tpl.N)), (.d (.str a2.tpl.Tag)), (.d (.str a2.tpl.Text)), (.d (.sl ((a2.tpl.Attrs).map encAttr) false)), (.d (.sl ((a2.tpl.Kids).map encTpl) false)), (.d (.sl ((a2.on_).map encOn) false)), (.d (.sl ((a2.state).map (D.int .i64)) false))]] := H0
  refine WpC.seq ?_
  refine WpC.region (objR1 E) rfl ?_
  refine wpO.val rfl (oper_assign rfl) rfl ?_
  refine wpO.nil ?_
  refine WpC.seq ?_
  refine WpC.region (objR1 E) rfl ?_
  refine wpO.val rfl (oper_move rfl) rfl ?_
  refine wpO.val rfl (oper_nilCheck rfl) rfl ?_
  refine wpO.val rfl (oper_fieldAddr rfl fo53_2 nz27 rfl) rfl ?_
  refine wpO.val rfl (oper_load H0 (i := 0) rfl rfl (part_one ag27 rfl)) rfl ?_
  obtain ⟨z3, hzz3, h⟩ := bind_some h
  refine wpO.retN H0 rfl (oper_callF rfl rfl) (slices_Clone__int_int__okN E n _ _ hzz3) (ArgsC.eq .nil) rfl ?_
  rintro v4 S5 _ rfl H6
  refine wpO.val rfl (oper_assign rfl) rfl ?_
  refine wpO.nil ?_
  have hr := Option.some.inj h
  subst hr
  exact WpC.ret ⟨_, rfl, rfl, _, _, _, .refl _, (.refl _), rfl, H6.sel [0, 1] (by decide) rfl⟩
set_option maxRecDepth 20000 in
set_option maxHeartbeats 4000000 in
theorem slices_IndexFunc__api_On_api_On__ok (n : Nat) (S0 : St) (a1 : (List On)) (fg3 : Nat) (fc4 : List AV) (p2 : On → Option Bool) (hpp2 : ∀ S', Keeps S0 S' → S'.Wf → ∀ (y0 : On) (r : Bool), p2 y0 = some r → SpecF R cfg.P fg3 ([.d (encOn y0)] ++ fc4) S' (fun o => o = (none, .d (.bool r), S'))) (r : Int) (h : slices_IndexFunc__api_On_api_On_ n a1 p2 = some r) : SpecF R cfg.P 43 [.d (.sl ((a1).map encOn) false), .fn fg3 fc4] S0 (fun o => o = (none, .d (.int .i64 r), S0)) := by
  unfold slices_IndexFunc__api_On_api_On_ at h
  refine SpecS.of_wp (C := cfg) Tryd.func43 rfl nm43 rfl (fun wf0 => ?_)
  have H0 : Has S0 S0 [] := Has.start wf0
  refine WpC.seq ?_
  refine WpC.region E.obj rfl ?_
  refine wpO.val rfl (oper_assign rfl) rfl ?_
  refine wpO.nil ?_
  refine WpC.seq ?_
  refine WpC.seq ?_
  refine WpC.region E.obj rfl ?_
  refine wpO.val rfl (oper_move rfl) rfl ?_
  refine wpO.val rfl (oper_lenL rfl es30) rfl ?_
  refine wpO.val rfl (oper_move rfl) rfl ?_
  refine wpO.nil ?_
  refine WpC.block ?_
  refine WpL.start (B := S0) (α := Int) (fun k a => slices_IndexFunc__api_On_api_On__l13 a1 p2 k a = some r) (fun a => [(0, (.d (.sl ((a1).map encOn) false))), (1, (.fn fg3 fc4)), (7, (.d (.int .i64 ((a1).length : Int)))), (8, (.d (.int .i64 a)))]) (fun a => []) ?_ ?_ n ⟨0, _, _, S0, .refl _ _, .refl _, (WeakE.cons rfl (.refl _) (WeakE.cons rfl (.refl _) (WeakE.cons rfl (.refl _) (WeakE.cons rfl (.refl _) WeakE.nil)))), H0.sel [] (by decide) rfl, h⟩
  · intro a h; simp [slices_IndexFunc__api_On_api_On__l13] at h
  ·
    intro k13 x12 S10 H11 h
    replace h : slices_IndexFunc__api_On_api_On__l13 a1 p2 (k13 + 1) x12 = some r := h
    replace H11 : Has S0 S10 [] := H11
    unfold slices_IndexFunc__api_On_api_On__l13 at h
    refine WpC.seq ?_
    refine WpC.region E.obj rfl ?_
    refine wpO.val rfl (oper_bin rfl rfl binD_lss) rfl ?_
    refine wpO.nil ?_
    refine WpC.seq ?_
    refine WpC.cond rfl (fun hb14 => ?_) (fun hb14 => ?_)
    ·
      replace h := if_t hb14 h
      refine WpC.skip ?_
      refine WpC.seq ?_
      refine WpC.block ?_
      refine WpC.seq ?_
      refine WpC.region E.obj rfl ?_
      refine wpO.val rfl (oper_move rfl) rfl ?_
      refine wpO.val rfl (oper_assign rfl) rfl ?_
      refine wpO.nil ?_
      refine WpC.seq ?_
      refine WpC.region E.obj rfl ?_
      refine wpO.val rfl (oper_move rfl) rfl ?_
      refine wpO.val rfl (oper_move rfl) rfl ?_
      refine wpO.val rfl (oper_move rfl) rfl ?_
      obtain ⟨z15, hzz15, h⟩ := bind_some h
      refine wpO.val rfl (oper_idx rfl rfl (idxAddr (enc := encOn) hzz15 el30 as29 ((On.len _).trans sz29.symm))) rfl ?_
      refine wpO.val rfl (oper_loadE rfl (On.partW ag29 sz29)) rfl ?_
      obtain ⟨z16, hzz16, h⟩ := bind_some h
      refine wpO.ret rfl (oper_callV rfl rfl) (hpp2 _ H11.keeps H11.wf _ _ hzz16) rfl ?_
      refine wpO.nil ?_
      refine WpC.cond rfl (fun hb17 => ?_) (fun hb17 => ?_)
      ·
        replace h := if_t hb17 h
        refine WpC.seq ?_
        refine WpC.region E.obj rfl ?_
        refine wpO.val rfl (oper_move rfl) rfl ?_
        refine wpO.val rfl (oper_assign rfl) rfl ?_
        refine wpO.nil ?_
        have hr := Option.some.inj h
        subst hr
        exact WpC.ret ⟨_, rfl, rfl, H11.keeps, end1 (ArgsC.eq .nil)⟩
      ·
        replace h := if_f hb17 h
        refine WpC.skip ?_
        refine WpC.region E.obj rfl ?_
        refine wpO.val rfl (oper_bin rfl rfl binD_add) rfl ?_
        refine wpO.val rfl (oper_move rfl) rfl ?_
        refine wpO.nil ?_
        exact ⟨(IntKind.wrap .i64 (x12 + 1)), _, _, S10, .refl _ _, .refl _, (WeakE.cons rfl (.refl _) (WeakE.cons rfl (.refl _) (WeakE.cons rfl (.refl _) (WeakE.cons rfl (.refl _) WeakE.nil)))), H11.sel [] (by decide) rfl, h⟩
    ·
      replace h := if_f hb14 h
      refine WpC.exit ?_
      refine WpC.seq ?_
      refine WpC.region E.obj rfl ?_
      refine wpO.val rfl (oper_assign rfl) rfl ?_
      refine wpO.nil ?_
      have hr := Option.some.inj h
      subst hr
      exact WpC.ret ⟨_, rfl, rfl, H11.keeps, end1 (ArgsC.eq .nil)⟩
set_option maxRecDepth 20000 in
set_option maxHeartbeats 4000000 in
theorem slices_ContainsFunc__api_On_api_On__ok (n : Nat) (S0 : St) (a1 : (List On)) (fg3 : Nat) (fc4 : List AV) (p2 : On → Option Bool) (hpp2 : ∀ S', Keeps S0 S' → S'.Wf → ∀ (y0 : On) (r : Bool), p2 y0 = some r → SpecF R cfg.P fg3 ([.d (encOn y0)] ++ fc4) S' (fun o => o = (none, .d (.bool r), S'))) (r : Bool) (h : slices_ContainsFunc__api_On_api_On_ n a1 p2 = some r) : SpecF R cfg.P 24 [.d (.sl ((a1).map encOn) false), .fn fg3 fc4] S0 (fun o => o = (none, .d (.bool r), S0)) := by
  unfold slices_ContainsFunc__api_On_api_On_ at h
  refine SpecS.of_wp (C := cfg) Tryd.func24 rfl nm24 rfl (fun wf0 => ?_)
  have H0 : Has S0 S0 [] := Has.start wf0
  refine WpC.seq ?_
  refine WpC.region E.obj rfl ?_
  refine wpO.val rfl (oper_assign rfl) rfl ?_
  refine wpO.nil ?_
  refine WpC.seq ?_
  refine WpC.region E.obj rfl ?_
  refine wpO.val rfl (oper_move rfl) rfl ?_
  refine wpO.val rfl (oper_move rfl) rfl ?_
  obtain ⟨z6, hzz6, h⟩ := bind_some h
  refine wpO.ret rfl (oper_callF rfl rfl) (SpecF.argsL (slices_IndexFunc__api_On_api_On__ok E n S0 _ _ _ p2 (fun S' hk hw y5 r hr => hpp2 S' (H0.keeps.trans hk) hw y5 r hr) _ hzz6) (.cons (.refl _) (.cons (.refl _) .nil))) rfl ?_
  refine wpO.val rfl (oper_bin rfl rfl binD_geq) rfl ?_
  refine wpO.val rfl (oper_assign rfl) rfl ?_
  refine wpO.nil ?_
  have hr := Option.some.inj h
  subst hr
  exact WpC.ret ⟨_, rfl, rfl, H0.keeps, end1 (ArgsC.eq .nil)⟩
set_option maxRecDepth 20000 in
set_option maxHeartbeats 4000000 in
theorem comp_Instance_Hears_1_ok (n : Nat) (a1 : On) (a2 : Str) (S0 : St) (b3 : Nat) (hb4 : S0.H.get b3 = some (.cells 0 [(.d (.str a2))])) (r : Bool) (h : comp_Instance_Hears_1 n a1 a2 = some r) : SpecF R cfg.P 25 [.d (encOn a1), .ptr b3 0 0] S0 (fun o => o = (none, .d (.bool r), S0)) := by
  unfold comp_Instance_Hears_1 at h
  refine SpecS.of_wp (C := cfg) Tryd.func25 rfl nm25 rfl (fun wf0 => ?_)
  have H0 : Has S0 S0 [] := Has.start wf0
  refine WpC.seq ?_
  refine WpC.region E.obj rfl ?_
  refine wpO.box H0 rfl rfl rfl (On.cellsA _) rfl (fun b5 S6 H7 => ?_)
  refine wpO.val rfl (oper_assign rfl) rfl ?_
  refine wpO.nil ?_
  refine WpC.seq ?_
  refine WpC.region E.obj rfl ?_
  refine wpO.val rfl (oper_fieldAddr rfl fo29_0 nz9 rfl) rfl ?_
  refine wpO.val rfl (oper_load H7 (i := 0) rfl rfl (part_one ag9 rfl)) rfl ?_
  refine wpO.val rfl (oper_loadB H7 hb4 rfl (part_one ag9 rfl)) rfl ?_
  refine wpO.val rfl (oper_bin rfl rfl binD_seql) rfl ?_
  refine wpO.val rfl (oper_assign rfl) rfl ?_
  refine wpO.nil ?_
  have hr := Option.some.inj h
  subst hr
  exact WpC.ret ⟨_, rfl, rfl, H7.keeps, end1 (ArgsC.eq .nil)⟩
set_option maxRecDepth 20000 in
set_option maxHeartbeats 4000000 in
theorem comp_Instance_Hears_ok (n : Nat) (a2 : comp_Instance) (a3 : Str) (r : Bool) (h : comp_Instance_Hears n a2 a3 = some r) (b1 : Nat) : SpecM R cfg.P 13 [.ptr b1 0 0, .d (.str a3)] [.box b1 [(.d (.int .i64 a2.tpl.Kind)), (.d (.int .i64 a2.tpl.N)), (.d (.str a2.tpl.Tag)), (.d (.str a2.tpl.Text)), (.d (.sl ((a2.tpl.Attrs).map encAttr) false)), (.d (.sl ((a2.tpl.Kids).map encTpl) false)), (.d (.sl ((a2.on_).map encOn) false)), (.d (.sl ((a2.state).map (D.int .i64)) false))]] (fun v l => v = .d (.bool r) ∧ l = [.box b1 [.d (.int .i64 a2.tpl.Kind), .d (.int .i64 a2.tpl.N), .d (.str a2.tpl.Tag), .d (.str a2.tpl.Text), .d (.sl ((a2.tpl.Attrs).map encAttr) false), .d (.sl ((a2.tpl.Kids).map encTpl) false), .d (.sl ((a2.on_).map encOn) false), .d (.sl ((a2.state).map (D.int .i64)) false)]]) := by
  unfold comp_Instance_Hears at h
  refine SpecM.of_wp (C := cfg) Tryd.func13 rfl nm13 rfl (fun B0 S0 H0 => ?_)
  replace H0 : Has B0 S0 [.box b1 [(.d (.int .i64 a2.tpl.Kind)), (.d (.int .i64 a2.tpl.N)), (.d (.str a2.tpl.Tag)), (.d (.str a2.tpl.Text)), (.d (.sl ((a2.tpl.Attrs).map encAttr) false)), (.d (.sl ((a2.tpl.Kids).map encTpl) false)), (.d (.sl ((a2.on_).map encOn) false)), (.d (.sl ((a2.state).map (D.int .i64)) false))]] := H0
  refine WpC.seq ?_
  refine WpC.region E.obj rfl ?_
  refine wpO.box H0 rfl rfl rfl rfl rfl (fun b4 S5 H6 => ?_)
  refine wpO.val rfl (oper_assign rfl) rfl ?_
  refine wpO.nil ?_
  refine WpC.seq ?_
  refine WpC.region E.obj rfl ?_
  refine wpO.val rfl (oper_move rfl) rfl ?_
  refine wpO.val rfl (oper_nilCheck rfl) rfl ?_
  refine wpO.val rfl (oper_fieldAddr rfl fo53_1 nz30 rfl) rfl ?_
  refine wpO.val rfl (oper_load H6 (i := 1) rfl rfl (part_one ag30 rfl)) rfl ?_
  refine wpO.val rfl (oper_makeFunc rfl) rfl ?_
  obtain ⟨z8, hzz8, h⟩ := bind_some h
  refine wpO.ret rfl (oper_callF rfl rfl) (SpecF.argsL (slices_ContainsFunc__api_On_api_On__ok E n S5 _ _ _ (fun y7 => comp_Instance_Hears_1 n y7 a3) (fun S' hk hw y7 r hr => comp_Instance_Hears_1_ok E n y7 a3 S' _ (hk.H _ _ (H6.at (i := 0) rfl)) r hr) _ hzz8) (.cons (.refl _) (.cons (.refl _) .nil))) rfl ?_
  refine wpO.val rfl (oper_assign rfl) rfl ?_
  refine wpO.nil ?_
  have hr := Option.some.inj h
  subst hr
  exact WpC.ret ⟨_, rfl, rfl, _, _, _, .refl _, (.refl _), ⟨rfl, rfl⟩, H6.sel [1] (by decide) rfl⟩
set_option maxRecDepth 20000 in
set_option maxHeartbeats 4000000 in
theorem comp_Instance_Hear_ok (n : Nat) (a2 : comp_Instance) (a3 : Str) (r : (Int × comp_Instance)) (h : comp_Instance_Hear n a2 a3 = some r) (b1 : Nat) : SpecM R cfg.P 7 [.ptr b1 0 0, .d (.str a3)] [.box b1 [(.d (.int .i64 a2.tpl.Kind)), (.d (.int .i64 a2.tpl.N)), (.d (.str a2.tpl.Tag)), (.d (.str a2.tpl.Text)), (.d (.sl ((a2.tpl.Attrs).map encAttr) false)), (.d (.sl ((a2.tpl.Kids).map encTpl) false)), (.d (.sl ((a2.on_).map encOn) false)), (.d (.sl ((a2.state).map (D.int .i64)) false))]] (fun v l => v = .d (.int .i64 r.1) ∧ l = [.box b1 [.d (.int .i64 r.2.tpl.Kind), .d (.int .i64 r.2.tpl.N), .d (.str r.2.tpl.Tag), .d (.str r.2.tpl.Text), .d (.sl ((r.2.tpl.Attrs).map encAttr) false), .d (.sl ((r.2.tpl.Kids).map encTpl) false), .d (.sl ((r.2.on_).map encOn) false), .d (.sl ((r.2.state).map (D.int .i64)) false)]]) := by
  unfold comp_Instance_Hear at h
  refine SpecM.of_wp (C := cfgR1) Tryd.func7 rfl nm7 rfl (fun B0 S0 H0 => ?_)
  replace H0 : Has B0 S0 [.box b1 [(.d (.int .i64 a2.tpl.Kind)), (.d (.int .i64 a2.tpl.N)), (.d (.str a2.tpl.Tag)), (.d (.str a2.tpl.Text)), (.d (.sl ((a2.tpl.Attrs).map encAttr) false)), (.d (.sl ((a2.tpl.Kids).map encTpl) false)), (.d (.sl ((a2.on_).map encOn) false)), (.d (.sl ((a2.state).map (D.int .i64)) false))]] := H0
  refine WpC.seq ?_
  refine WpC.region (objR1 E) rfl ?_
  refine wpO.val rfl (oper_assign rfl) rfl ?_
  refine wpO.nil ?_
  refine WpC.seq ?_
  refine WpC.seq ?_
  refine WpC.region (objR1 E) rfl ?_
  refine wpO.val rfl (oper_move rfl) rfl ?_
  refine wpO.val rfl (oper_move rfl) rfl ?_
  obtain ⟨z4, hzz4, h⟩ := bind_some h
  refine wpO.retM (ins := [.box b1 [(.d (.int .i64 a2.tpl.Kind)), (.d (.int .i64 a2.tpl.N)), (.d (.str a2.tpl.Tag)), (.d (.str a2.tpl.Text)), (.d (.sl ((a2.tpl.Attrs).map encAttr) false)), (.d (.sl ((a2.tpl.Kids).map encTpl) false)), (.d (.sl ((a2.on_).map encOn) false)), (.d (.sl ((a2.state).map (D.int .i64)) false))]]) (more := []) (H0.sel [0] (by decide) rfl) rfl (oper_callF rfl rfl) (comp_Instance_Hears_ok E n _ _ _ hzz4 b1) (.cons (.refl _) (.cons (.refl _) .nil)) rfl ?_
  rintro _ S5 _ ⟨rfl, rfl⟩ H6
  replace H6 : Has B0 S5 [.box b1 [(.d (.int .i64 a2.tpl.Kind)), (.d (.int .i64 a2.tpl.N)), (.d (.str a2.tpl.Tag)), (.d (.str a2.tpl.Text)), (.d (.sl ((a2.tpl.Attrs).map encAttr) false)), (.d (.sl ((a2.tpl.Kids).map encTpl) false)), (.d (.sl ((a2.on_).map encOn) false)), (.d (.sl ((a2.state).map (D.int .i64)) false))]] := H6
  refine wpO.val rfl (oper_not rfl) rfl ?_
  refine wpO.nil ?_
  refine WpC.cond rfl (fun hb7 => ?_) (fun hb7 => ?_)
  ·
    replace h := if_t hb7 h
    refine WpC.seq ?_
    refine WpC.region (objR1 E) rfl ?_
    refine wpO.val rfl (oper_assign rfl) rfl ?_
    refine wpO.nil ?_
    have hr := Option.some.inj h
    subst hr
    exact WpC.ret ⟨_, rfl, rfl, _, _, _, .refl _, (.refl _), ⟨rfl, rfl⟩, H6.sel [0] (by decide) rfl⟩
  ·
    replace h := if_f hb7 h
    refine WpC.skip ?_
    refine WpC.seq ?_
    refine WpC.region (objR1 E) rfl ?_
    refine wpO.val rfl (oper_move rfl) rfl ?_
    obtain ⟨z8, hzz8, h⟩ := bind_some h
    refine wpO.retM (ins := [.box b1 [(.d (.int .i64 a2.tpl.Kind)), (.d (.int .i64 a2.tpl.N)), (.d (.str a2.tpl.Tag)), (.d (.str a2.tpl.Text)), (.d (.sl ((a2.tpl.Attrs).map encAttr) false)), (.d (.sl ((a2.tpl.Kids).map encTpl) false)), (.d (.sl ((a2.on_).map encOn) false)), (.d (.sl ((a2.state).map (D.int .i64)) false))]]) (more := []) (H6.sel [0] (by decide) rfl) rfl (oper_callF rfl rfl) (comp_Instance_State_okN E n _ _ hzz8 b1) (.cons (.refl _) .nil) rfl ?_
    rintro v11 S9 _ rfl H10
    replace H10 : Has B0 S9 [.row 1 v11 ((z8).map (D.int .i64)), .box b1 [(.d (.int .i64 a2.tpl.Kind)), (.d (.int .i64 a2.tpl.N)), (.d (.str a2.tpl.Tag)), (.d (.str a2.tpl.Text)), (.d (.sl ((a2.tpl.Attrs).map encAttr) false)), (.d (.sl ((a2.tpl.Kids).map encTpl) false)), (.d (.sl ((a2.on_).map encOn) false)), (.d (.sl ((a2.state).map (D.int .i64)) false))]] := H10
    refine wpO.val rfl (oper_assign rfl) rfl ?_
    refine wpO.nil ?_
    refine WpC.seq ?_
    refine WpC.seq ?_
    refine WpC.region (objR1 E) rfl ?_
    refine wpO.val rfl (oper_move rfl) rfl ?_
    refine wpO.val rfl (oper_nilCheck rfl) rfl ?_
    refine wpO.val rfl (oper_fieldAddr rfl fo53_1 nz30 rfl) rfl ?_
    refine wpO.val rfl (oper_load H10 (i := 1) rfl rfl (part_one ag30 rfl)) rfl ?_
    refine wpO.val rfl (oper_lenL rfl es30) rfl ?_
    refine wpO.val rfl (oper_move rfl) rfl ?_
    refine wpO.nil ?_
    refine WpC.block ?_
    refine WpL.start (B := B0) (α := (List Int) × Int) (fun k a => comp_Instance_Hear_l22 n a2 a3 k a.1 a.2 = some r) (fun a => [(0, (.ptr b1 0 0)), (1, (.d (.str a3))), (5, v11), (17, (.d (.sl ((a2.on_).map encOn) false))), (18, (.d (.int .i64 ((a2.on_).length : Int)))), (19, (.d (.int .i64 a.2)))]) (fun a => [.row 1 v11 ((a.1).map (D.int .i64)), .box b1 [(.d (.int .i64 a2.tpl.Kind)), (.d (.int .i64 a2.tpl.N)), (.d (.str a2.tpl.Tag)), (.d (.str a2.tpl.Text)), (.d (.sl ((a2.tpl.Attrs).map encAttr) false)), (.d (.sl ((a2.tpl.Kids).map encTpl) false)), (.d (.sl ((a2.on_).map encOn) false)), (.d (.sl ((a2.state).map (D.int .i64)) false))]]) ?_ ?_ n ⟨⟨z8, 0⟩, _, _, S9, .refl _ _, .refl _, (WeakE.cons rfl (.refl _) (WeakE.cons rfl (.refl _) (WeakE.cons rfl (.refl _) (WeakE.cons rfl (.refl _) (WeakE.cons rfl (.refl _) (WeakE.cons rfl (.refl _) WeakE.nil)))))), H10.sel [0, 1] (by decide) rfl, h⟩
    · intro a h; simp [comp_Instance_Hear_l22] at h
    ·
      intro k22 a S18 H19 h
      obtain ⟨x20, x21⟩ := a
      replace h : comp_Instance_Hear_l22 n a2 a3 (k22 + 1) x20 x21 = some r := h
      replace H19 : Has B0 S18 [.row 1 v11 ((x20).map (D.int .i64)), .box b1 [(.d (.int .i64 a2.tpl.Kind)), (.d (.int .i64 a2.tpl.N)), (.d (.str a2.tpl.Tag)), (.d (.str a2.tpl.Text)), (.d (.sl ((a2.tpl.Attrs).map encAttr) false)), (.d (.sl ((a2.tpl.Kids).map encTpl) false)), (.d (.sl ((a2.on_).map encOn) false)), (.d (.sl ((a2.state).map (D.int .i64)) false))]] := H19
      unfold comp_Instance_Hear_l22 at h
      refine WpC.seq ?_
      refine WpC.region (objR1 E) rfl ?_
      refine wpO.val rfl (oper_bin rfl rfl binD_lss) rfl ?_
      refine wpO.nil ?_
      refine WpC.seq ?_
      refine WpC.cond rfl (fun hb23 => ?_) (fun hb23 => ?_)
      ·
        replace h := if_t hb23 h
        refine WpC.skip ?_
        refine WpC.join (B := B0) (α := (List Int)) (fun a => comp_Instance_Hear_j27 x21 (comp_Instance_Hear_l22 n a2 a3 k22) a = some r) (fun a => [(0, (.ptr b1 0 0)), (1, (.d (.str a3))), (5, v11), (17, (.d (.sl ((a2.on_).map encOn) false))), (18, (.d (.int .i64 ((a2.on_).length : Int)))), (19, (.d (.int .i64 x21)))]) (fun a => [.row 1 v11 ((a).map (D.int .i64)), .box b1 [(.d (.int .i64 a2.tpl.Kind)), (.d (.int .i64 a2.tpl.N)), (.d (.str a2.tpl.Tag)), (.d (.str a2.tpl.Text)), (.d (.sl ((a2.tpl.Attrs).map encAttr) false)), (.d (.sl ((a2.tpl.Kids).map encTpl) false)), (.d (.sl ((a2.on_).map encOn) false)), (.d (.sl ((a2.state).map (D.int .i64)) false))]]) ?_ ?_
        ·
          intro x26 S24 H25 h
          replace h : comp_Instance_Hear_j27 x21 (comp_Instance_Hear_l22 n a2 a3 k22) x26 = some r := h
          replace H25 : Has B0 S24 [.row 1 v11 ((x26).map (D.int .i64)), .box b1 [(.d (.int .i64 a2.tpl.Kind)), (.d (.int .i64 a2.tpl.N)), (.d (.str a2.tpl.Tag)), (.d (.str a2.tpl.Text)), (.d (.sl ((a2.tpl.Attrs).map encAttr) false)), (.d (.sl ((a2.tpl.Kids).map encTpl) false)), (.d (.sl ((a2.on_).map encOn) false)), (.d (.sl ((a2.state).map (D.int .i64)) false))]] := H25
          unfold comp_Instance_Hear_j27 at h
          refine WpC.region (objR1 E) rfl ?_
          refine wpO.val rfl (oper_bin rfl rfl binD_add) rfl ?_
          refine wpO.val rfl (oper_move rfl) rfl ?_
          refine wpO.nil ?_
          exact ⟨⟨x26, (IntKind.wrap .i64 (x21 + 1))⟩, _, _, S24, .refl _ _, .refl _, (WeakE.cons rfl (.refl _) (WeakE.cons rfl (.refl _) (WeakE.cons rfl (.refl _) (WeakE.cons rfl (.refl _) (WeakE.cons rfl (.refl _) (WeakE.cons rfl (.refl _) WeakE.nil)))))), H25.sel [0, 1] (by decide) rfl, h⟩
        ·
          refine WpC.block ?_
          refine WpC.seq ?_
          refine WpC.region (objR1 E) rfl ?_
          obtain ⟨z28, hzz28, h⟩ := bind_some h
          refine wpO.val rfl (oper_idx rfl rfl (idxAddr (enc := encOn) hzz28 el30 as29 ((On.len _).trans sz29.symm))) rfl ?_
          refine wpO.val rfl (oper_loadE rfl (On.partW ag29 sz29)) rfl ?_
          refine wpO.alloc H19 rfl ob29R1 zo29 rfl rfl (fun b29 S30 H31 => ?_)
          refine wpO.store H31 (i := 0) rfl rfl rfl rfl (On.cellsA _) rfl sz29 rfl as29 rfl rfl rfl (fun S32 H33 => ?_)
          refine wpO.nil ?_
          refine WpC.seq ?_
          refine WpC.seq ?_
          refine WpC.region (objR1 E) rfl ?_
          refine wpO.val rfl (oper_fieldAddr rfl fo29_0 nz9 rfl) rfl ?_
          refine wpO.val rfl (oper_load H33 (i := 0) rfl rfl (part_one ag9 rfl)) rfl ?_
          refine wpO.val rfl (oper_move rfl) rfl ?_
          refine wpO.val rfl (oper_bin rfl rfl binD_sneq) rfl ?_
          refine wpO.nil ?_
          refine WpC.cond rfl (fun hb34 => ?_) (fun hb34 => ?_)
          ·
            replace h := if_t hb34 h
            refine WpC.exit ?_
            exact ⟨x20, _, _, S32, .refl _ _, .refl _, (WeakE.cons rfl (.refl _) (WeakE.cons rfl (.refl _) (WeakE.cons rfl (.refl _) (WeakE.cons rfl (.refl _) (WeakE.cons rfl (.refl _) (WeakE.cons rfl (.refl _) WeakE.nil)))))), H33.sel [1, 2] (by decide) rfl, h⟩
          ·
            replace h := if_f hb34 h
            refine WpC.skip ?_
            refine WpC.seq ?_
            obtain ⟨z35, hzz35, h⟩ := bind_some h
            refine WpC.drawP (objR1 E) hmix [[(5, none)], [(7, none)], [(28, some 1)], [(27, some 0), (29, some 2)], [(30, some 3)], [(7, none)], [(32, some 5)], [(31, some 4), (33, some 6)], [(27, some 0), (29, some 2)], [(34, some 7), (35, some 8)]] [(0, none), (1, none), (5, none), (7, none), (17, none), (18, none), (19, none)] (by kernel_rfl) [9] (by decide) [some v11, some (.ptr b29 0 1), some (.d (.int .i64 z28.N)), some (rowPtr v11 (Int.toNat z28.N) 0), some (.d (.int .i64 z35)), some (.ptr b29 0 2), some (.d (.int .i64 z28.Add)), some (.d (.int .i64 (IntKind.wrap .i64 (z35 + z28.Add)))), some (rowPtr v11 (Int.toNat z28.N) 0), none] ?_
            refine ⟨[0, 1, 2, 3, 4, 5, 6, 7, 8], by kernel_rfl, ?_, _, _, rfl, rfl, .step ?_⟩
            ·
              refine .cons rfl rfl rfl (.step ?_) ?_
              ·
                refine wpO.val rfl (oper_move rfl) rfl ?_
                exact wpO.nil ⟨_, _, rfl, fun _ ht => by cases ht; exact ⟨rfl, .refl _⟩⟩
              refine .cons rfl rfl rfl (.step ?_) ?_
              ·
                refine wpO.val rfl (oper_fieldAddr rfl fo29_1 nz3 rfl) rfl ?_
                exact wpO.nil ⟨_, _, rfl, fun _ ht => by cases ht; exact ⟨rfl, .refl _⟩⟩
              refine .cons rfl rfl rfl (.step ?_) ?_
              ·
                refine wpO.val rfl (oper_load H33 (i := 0) rfl rfl (part_one ag3 rfl)) rfl ?_
                exact wpO.nil ⟨_, _, rfl, fun _ ht => by cases ht; exact ⟨rfl, .refl _⟩⟩
              refine .cons rfl rfl rfl (.step ?_) ?_
              ·
                refine wpO.rowIdxP (enc := (D.int .i64)) H33 rfl (i := 1) rfl rfl rfl hzz35 el27 as3 (((fun _ => rfl) _).trans sz3.symm) rfl ?_
                exact wpO.nil ⟨_, _, rfl, fun _ ht => by cases ht; exact ⟨rfl, .refl _⟩⟩
              refine .cons rfl rfl rfl (.step ?_) ?_
              ·
                refine wpO.rowLoadP H33 rfl (i := 1) rfl hzz35 rfl (partD_one ag3 rfl) rfl ?_
                exact wpO.nil ⟨_, _, rfl, fun _ ht => by cases ht; exact ⟨rfl, .refl _⟩⟩
              refine .cons rfl rfl rfl (.step ?_) ?_
              ·
                refine wpO.val rfl (oper_fieldAddr rfl fo29_2 nz3 rfl) rfl ?_
                exact wpO.nil ⟨_, _, rfl, fun _ ht => by cases ht; exact ⟨rfl, .refl _⟩⟩
              refine .cons rfl rfl rfl (.step ?_) ?_
              ·
                refine wpO.val rfl (oper_load H33 (i := 0) rfl rfl (part_one ag3 rfl)) rfl ?_
                exact wpO.nil ⟨_, _, rfl, fun _ ht => by cases ht; exact ⟨rfl, .refl _⟩⟩
              refine .cons rfl rfl rfl (.step ?_) ?_
              ·
                refine wpO.val rfl (oper_bin rfl rfl binD_add) rfl ?_
                exact wpO.nil ⟨_, _, rfl, fun _ ht => by cases ht; exact ⟨rfl, .refl _⟩⟩
              refine .cons rfl rfl rfl (.step ?_) ?_
              ·
                refine wpO.rowIdxP (enc := (D.int .i64)) H33 rfl (i := 1) rfl rfl rfl hzz35 el27 as3 (((fun _ => rfl) _).trans sz3.symm) rfl ?_
                exact wpO.nil ⟨_, _, rfl, fun _ ht => by cases ht; exact ⟨rfl, .refl _⟩⟩
              exact .nil
            refine wpO.rowStoreP (enc := (D.int .i64)) (z' := (IntKind.wrap .i64 (z35 + z28.Add))) (cv := [(.int .i64 (IntKind.wrap .i64 (z35 + z28.Add)))]) H33 rfl (i := 1) rfl hzz35 rfl rfl rfl (.cons (.refl _) .nil) sz3 rfl as3 rfl rfl rfl (fun S38 H39 => ?_)
            refine wpO.nil ⟨_, .any, _, rfl, (fun _ ht => by cases ht), [some v11, some (.ptr b29 0 1), some (.d (.int .i64 z28.N)), some (rowPtr v11 (Int.toNat z28.N) 0), some (.d (.int .i64 z35)), some (.ptr b29 0 2), some (.d (.int .i64 z28.Add)), some (.d (.int .i64 (IntKind.wrap .i64 (z35 + z28.Add)))), some (rowPtr v11 (Int.toNat z28.N) 0), some .any], (.old (.refl _) (.old (.refl _) (.old (.refl _) (.old (.refl _) (.old (.refl _) (.old (.refl _) (.old (.refl _) (.old (.refl _) (.old (.refl _) (.new .nil)))))))))), (fun _ ht => by cases ht), ?_⟩
            refine ⟨[], by kernel_rfl, ?_, _, rfl, ?_⟩
            ·
              exact .nil
            refine WpC.seq ?_
            refine WpC.region (objR1 E) rfl ?_
            refine wpO.val rfl (oper_move rfl) rfl ?_
            refine wpO.val rfl (oper_fieldAddr rfl fo29_1 nz3 rfl) rfl ?_
            refine wpO.val rfl (oper_load H39 (i := 0) rfl rfl (part_one ag3 rfl)) rfl ?_
            obtain ⟨z40, hzz40, h⟩ := bind_some h
            refine wpO.rowIdxP (enc := (D.int .i64)) H39 rfl (i := 1) rfl rfl rfl hzz40 el27 as3 (((fun _ => rfl) _).trans sz3.symm) rfl ?_
            refine wpO.rowLoadP H39 rfl (i := 1) rfl hzz40 rfl (partD_one ag3 rfl) rfl ?_
            obtain ⟨z41, hzz41, h⟩ := bind_some h
            refine wpO.ret rfl (oper_callF rfl rfl) (comp_may_ok E _ _ _ hzz41 _ _ (ArgsC.eq .nil)) rfl ?_
            refine wpO.val rfl (oper_not rfl) rfl ?_
            refine wpO.nil ?_
            refine WpC.cond rfl (fun hb42 => ?_) (fun hb42 => ?_)
            ·
              replace h := if_t hb42 h
              refine WpC.seq ?_
              refine WpC.region (objR1 E) rfl ?_
              refine wpO.val rfl (oper_assign rfl) rfl ?_
              refine wpO.nil ?_
              have hr := Option.some.inj h
              subst hr
              exact WpC.ret ⟨_, rfl, rfl, _, _, _, .refl _, (.refl _), ⟨rfl, rfl⟩, H39.sel [2] (by decide) rfl⟩
            ·
              replace h := if_f hb42 h
              refine WpC.skip ?_
              exact ⟨(setI x20 z28.N (IntKind.wrap .i64 (z35 + z28.Add))), _, _, S38, .refl _ _, .refl _, (WeakE.cons rfl (.refl _) (WeakE.cons rfl (.refl _) (WeakE.cons rfl (.refl _) (WeakE.cons rfl (.refl _) (WeakE.cons rfl (.refl _) (WeakE.cons rfl (.refl _) WeakE.nil)))))), H39.sel [1, 2] (by decide) rfl, h⟩
      ·
        replace h := if_f hb23 h
        refine WpC.exit ?_
        refine WpC.seq ?_
        refine WpC.region (objR1 E) rfl ?_
        refine wpO.val rfl (oper_move rfl) rfl ?_
        refine wpO.val rfl (oper_move rfl) rfl ?_
        refine wpO.val rfl (oper_nilCheck rfl) rfl ?_
        refine wpO.val rfl (oper_fieldAddr rfl fo53_2 nz27 rfl) rfl ?_
        refine wpO.store H19 (i := 1) rfl rfl rfl rfl (row_plain (H19.at (i := 0) rfl)).2 rfl sz27 (row_plain (H19.at (i := 0) rfl)).1 as27 rfl rfl rfl (fun S43 H44 => ?_)
        refine wpO.nil ?_
        refine WpC.seq ?_
        refine WpC.region (objR1 E) rfl ?_
        refine wpO.val rfl (oper_assign rfl) rfl ?_
        refine wpO.nil ?_
        obtain ⟨SF1, HF1, hgF1⟩ := H44.freeze (objR1 E).toObjOk (i := 0) (l' := [.box b1 [(.d (.int .i64 a2.tpl.Kind)), (.d (.int .i64 a2.tpl.N)), (.d (.str a2.tpl.Tag)), (.d (.str a2.tpl.Text)), (.d (.sl ((a2.tpl.Attrs).map encAttr) false)), (.d (.sl ((a2.tpl.Kids).map encTpl) false)), (.d (.sl ((a2.on_).map encOn) false)), (.d (.sl ((x20).map (D.int .i64)) false))]]) rfl (.box (.cons (.same _) (.cons (.same _) (.cons (.same _) (.cons (.same _) (.cons (.same _) (.cons (.same _) (.cons (.same _) (.cons .it .nil)))))))) .nil)
        refine WpC.ghost (hgF1 _ _ [(0, (.ptr b1 0 0)), (1, (.d (.str a3))), (4, (.d (.int .i64 0))), (5, (.d (.sl ((x20).map (D.int .i64)) false))), (17, (.d (.sl ((a2.on_).map encOn) false))), (18, (.d (.int .i64 ((a2.on_).length : Int)))), (19, (.d (.int .i64 x21))), (20, (.d (.bool (decide (x21 < ((a2.on_).length : Int)))))), (44, (.ptr b1 0 0)), (45, (.d (.sl ((x20).map (D.int .i64)) false))), (46, (.ptr b1 0 0)), (47, (.ptr b1 0 7))] (.cons rfl (.refl _) (.cons rfl (.refl _) (.cons rfl (.refl _) (.it rfl (.cons rfl (.refl _) (.cons rfl (.refl _) (.cons rfl (.refl _) (.cons rfl (.refl _) (.cons rfl (.refl _) (.it rfl (.cons rfl (.refl _) (.cons rfl (.refl _) .nil))))))))))))) ?_
        have hr := Option.some.inj h
        subst hr
        exact WpC.ret ⟨_, rfl, rfl, _, _, _, .refl _, (.refl _), ⟨rfl, rfl⟩, HF1.sel [0] (by decide) rfl⟩
set_option maxRecDepth 20000 in
set_option maxHeartbeats 4000000 in
theorem porticobook_Same_int_ok (n : Nat) (a1 : (List Int)) (a2 : (List Int)) (r : Bool) (h : porticobook_Same_int n a1 a2 = some r) : SpecC R cfg.P 8 [(.sl ((a1).map (D.int .i64)) false), (.sl ((a2).map (D.int .i64)) false)] (.d (.bool r)) := by
  unfold porticobook_Same_int at h
  refine SpecC.of_wp E.obj.toObjOk (C := cfg) Tryd.func8 rfl nm8 rfl ?_
  have H0 : Has pureSt pureSt [] := Has.pure
  refine WpC.seq ?_
  refine WpC.region E.obj rfl ?_
  refine wpO.val rfl (oper_assign rfl) rfl ?_
  refine wpO.nil ?_
  refine WpC.seq ?_
  refine WpC.seq ?_
  refine WpC.region E.obj rfl ?_
  refine wpO.val rfl (oper_move rfl) rfl ?_
  refine wpO.val rfl (oper_lenL rfl es27) rfl ?_
  refine wpO.val rfl (oper_move rfl) rfl ?_
  refine wpO.val rfl (oper_lenL rfl es27) rfl ?_
  refine wpO.val rfl (oper_bin rfl rfl binD_neq) rfl ?_
  refine wpO.nil ?_
  refine WpC.cond rfl (fun hb3 => ?_) (fun hb3 => ?_)
  ·
    replace h := if_t hb3 h
    refine WpC.seq ?_
    refine WpC.region E.obj rfl ?_
    refine wpO.val rfl (oper_assign rfl) rfl ?_
    refine wpO.nil ?_
    have hr := Option.some.inj h
    subst hr
    exact WpC.ret ⟨_, rfl, rfl, end1 (ArgsC.eq .nil)⟩
  ·
    replace h := if_f hb3 h
    refine WpC.skip ?_
    refine WpC.seq ?_
    refine WpC.seq ?_
    refine WpC.region E.obj rfl ?_
    refine wpO.val rfl (oper_assign rfl) rfl ?_
    refine wpO.nil ?_
    refine WpC.block ?_
    refine WpL.start (B := pureSt) (α := Int) (fun k a => porticobook_Same_int_l12 a1 a2 k a = some r) (fun a => [(0, (.d (.sl ((a1).map (D.int .i64)) false))), (1, (.d (.sl ((a2).map (D.int .i64)) false))), (5, (.d (.int .i64 a)))]) (fun a => []) ?_ ?_ n ⟨0, _, _, pureSt, .refl _ _, .refl _, (WeakE.cons rfl (.refl _) (WeakE.cons rfl (.refl _) (WeakE.cons rfl (.refl _) WeakE.nil))), H0.sel [] (by decide) rfl, h⟩
    · intro a h; simp [porticobook_Same_int_l12] at h
    ·
      intro k12 x11 S9 H10 h
      replace h : porticobook_Same_int_l12 a1 a2 (k12 + 1) x11 = some r := h
      replace H10 : Has pureSt S9 [] := H10
      unfold porticobook_Same_int_l12 at h
      refine WpC.seq ?_
      refine WpC.seq ?_
      refine WpC.region E.obj rfl ?_
      refine wpO.val rfl (oper_move rfl) rfl ?_
      refine wpO.val rfl (oper_move rfl) rfl ?_
      refine wpO.val rfl (oper_lenL rfl es27) rfl ?_
      refine wpO.val rfl (oper_bin rfl rfl binD_lss) rfl ?_
      refine wpO.nil ?_
      refine WpC.cond rfl (fun hb13 => ?_) (fun hb13 => ?_)
      ·
        replace h := if_t hb13 h
        refine WpC.skip ?_
        refine WpC.seq ?_
        refine WpC.block ?_
        refine WpC.seq ?_
        obtain ⟨z14, hzz14, h⟩ := bind_some h
        obtain ⟨z15, hzz15, h⟩ := bind_some h
        refine WpC.drawP E.obj hmix [[(0, none)], [(5, none)], [(17, some 0), (18, some 1)], [(19, some 2)], [(1, none)], [(5, none)], [(21, some 4), (22, some 5)], [(23, some 6)], [(20, some 3), (24, some 7)]] [(0, none), (1, none), (5, none), (25, some 8)] (by kernel_rfl) [] (by decide) [some (.d (.sl ((a1).map (D.int .i64)) false)), some (.d (.int .i64 x11)), some (.eptr (.int .i64 z14) 0), some (.d (.int .i64 z14)), some (.d (.sl ((a2).map (D.int .i64)) false)), some (.d (.int .i64 x11)), some (.eptr (.int .i64 z15) 0), some (.d (.int .i64 z15)), some (.d (.bool (z14 != z15)))] ?_
        refine ⟨[0, 1, 2, 3, 4, 5, 6, 7, 8], by kernel_rfl, ?_, _, rfl, ?_⟩
        ·
          refine .cons rfl rfl rfl (.step ?_) ?_
          ·
            refine wpO.val rfl (oper_move rfl) rfl ?_
            exact wpO.nil ⟨_, _, rfl, fun _ ht => by cases ht; exact ⟨rfl, .refl _⟩⟩
          refine .cons rfl rfl rfl (.step ?_) ?_
          ·
            refine wpO.val rfl (oper_move rfl) rfl ?_
            exact wpO.nil ⟨_, _, rfl, fun _ ht => by cases ht; exact ⟨rfl, .refl _⟩⟩
          refine .cons rfl rfl rfl (.step ?_) ?_
          ·
            refine wpO.val rfl (oper_idx rfl rfl (idxAddr (enc := (D.int .i64)) hzz14 el27 as3 (((fun _ => rfl) _).trans sz3.symm))) rfl ?_
            exact wpO.nil ⟨_, _, rfl, fun _ ht => by cases ht; exact ⟨rfl, .refl _⟩⟩
          refine .cons rfl rfl rfl (.step ?_) ?_
          ·
            refine wpO.val rfl (oper_loadE rfl (partD_one ag3 rfl)) rfl ?_
            exact wpO.nil ⟨_, _, rfl, fun _ ht => by cases ht; exact ⟨rfl, .refl _⟩⟩
          refine .cons rfl rfl rfl (.step ?_) ?_
          ·
            refine wpO.val rfl (oper_move rfl) rfl ?_
            exact wpO.nil ⟨_, _, rfl, fun _ ht => by cases ht; exact ⟨rfl, .refl _⟩⟩
          refine .cons rfl rfl rfl (.step ?_) ?_
          ·
            refine wpO.val rfl (oper_move rfl) rfl ?_
            exact wpO.nil ⟨_, _, rfl, fun _ ht => by cases ht; exact ⟨rfl, .refl _⟩⟩
          refine .cons rfl rfl rfl (.step ?_) ?_
          ·
            refine wpO.val rfl (oper_idx rfl rfl (idxAddr (enc := (D.int .i64)) hzz15 el27 as3 (((fun _ => rfl) _).trans sz3.symm))) rfl ?_
            exact wpO.nil ⟨_, _, rfl, fun _ ht => by cases ht; exact ⟨rfl, .refl _⟩⟩
          refine .cons rfl rfl rfl (.step ?_) ?_
          ·
            refine wpO.val rfl (oper_loadE rfl (partD_one ag3 rfl)) rfl ?_
            exact wpO.nil ⟨_, _, rfl, fun _ ht => by cases ht; exact ⟨rfl, .refl _⟩⟩
          refine .cons rfl rfl rfl (.step ?_) ?_
          ·
            refine wpO.val rfl (oper_bin rfl rfl binD_neq) rfl ?_
            exact wpO.nil ⟨_, _, rfl, fun _ ht => by cases ht; exact ⟨rfl, .refl _⟩⟩
          exact .nil
        refine WpC.cond rfl (fun hb16 => ?_) (fun hb16 => ?_)
        ·
          replace h := if_t hb16 h
          refine WpC.seq ?_
          refine WpC.region E.obj rfl ?_
          refine wpO.val rfl (oper_assign rfl) rfl ?_
          refine wpO.nil ?_
          have hr := Option.some.inj h
          subst hr
          exact WpC.ret ⟨_, rfl, rfl, end1 (ArgsC.eq .nil)⟩
        ·
          replace h := if_f hb16 h
          refine WpC.skip ?_
          refine WpC.region E.obj rfl ?_
          refine wpO.val rfl (oper_move rfl) rfl ?_
          refine wpO.val rfl (oper_bin rfl rfl binD_add) rfl ?_
          refine wpO.val rfl (oper_assign rfl) rfl ?_
          refine wpO.nil ?_
          exact ⟨(IntKind.wrap .i64 (x11 + 1)), _, _, S9, .refl _ _, .refl _, (WeakE.cons rfl (.refl _) (WeakE.cons rfl (.refl _) (WeakE.cons rfl (.refl _) WeakE.nil))), H10.sel [] (by decide) rfl, h⟩
      ·
        replace h := if_f hb13 h
        refine WpC.exit ?_
        refine WpC.seq ?_
        refine WpC.region E.obj rfl ?_
        refine wpO.val rfl (oper_assign rfl) rfl ?_
        refine wpO.nil ?_
        have hr := Option.some.inj h
        subst hr
        exact WpC.ret ⟨_, rfl, rfl, end1 (ArgsC.eq .nil)⟩
set_option maxRecDepth 20000 in
set_option maxHeartbeats 4000000 in
theorem porticolaw17_CompSums_ok (n : Nat) (a1 : Int) (a2 : Int) (a3 : Int) (r : Bool) (h : porticolaw17_CompSums n a1 a2 a3 = some r) : SpecC R cfg.P 3 [(.int .i64 a1), (.int .i64 a2), (.int .i64 a3)] (.d (.bool r)) := by
  unfold porticolaw17_CompSums at h
  refine SpecC.of_wp E.obj.toObjOk (C := cfg) Tryd.func3 rfl nm3 rfl ?_
  have H0 : Has pureSt pureSt [] := Has.pure
  refine WpC.seq ?_
  refine WpC.region E.obj rfl ?_
  refine wpO.val rfl (oper_assign rfl) rfl ?_
  refine wpO.nil ?_
  refine WpC.seq ?_
  refine WpC.region E.obj rfl ?_
  refine wpO.val rfl (oper_move rfl) rfl ?_
  obtain ⟨z4, hzz4, h⟩ := bind_some h
  refine wpO.ret rfl (oper_callF rfl rfl) (porticobook_Within_ok E _ _ _ _ _ hzz4 _ _ (ArgsC.eq (ArgsC.eq (ArgsC.eq .nil)))) rfl ?_
  refine wpO.val rfl (oper_move rfl) rfl ?_
  obtain ⟨z5, hzz5, h⟩ := bind_some h
  refine wpO.ret rfl (oper_callF rfl rfl) (porticobook_Within_ok E _ _ _ _ _ hzz5 _ _ (ArgsC.eq (ArgsC.eq (ArgsC.eq .nil)))) rfl ?_
  refine wpO.val rfl (oper_assign rfl) rfl ?_
  refine wpO.val rfl (oper_assign rfl) rfl ?_
  refine wpO.nil ?_
  refine WpC.seq ?_
  refine WpC.region E.obj rfl ?_
  refine wpO.val rfl (oper_build (cs := [(.d (.int .i64 1)), (.d (.int .i64 0)), (.d (.str [112])), (.d (.str [])), (.d .nils), (.d .nils)]) zo26 rfl (place_struct26) (fill1 rfl rfl rfl rfl (fill1 rfl rfl rfl rfl rfl))) rfl ?_
  refine wpO.less (Less.agg' (d := encTpl (Tpl.mk 1 0 [112] [] [] [])) (CellsC.eq rfl (CellsC.eq rfl (CellsC.eq rfl (CellsC.eq rfl (CellsC.consW rfl (.nils false) rfl rfl (CellsC.consW rfl (.nils false) rfl rfl .nil)))))) ((Tpl.eq _).trans rfl)) ?_
  refine wpO.val rfl (oper_move rfl) rfl ?_
  refine wpO.val rfl (oper_buildSlice (vs := [(.d (.int .i64 z4)), (.d (.int .i64 0))]) (ds := [(.int .i64 z4), (.int .i64 0)]) rw27 el27 ag3 zo3 sz3 rfl (by decide) (.cons rfl rfl (.cons rfl rfl .nil)) rfl (by intro d hd; simp only [List.mem_cons, List.not_mem_nil, or_false] at hd; rcases hd with rfl | rfl <;> rfl) rfl) rfl ?_
  refine wpO.val rfl (oper_move rfl) rfl ?_
  refine wpO.val rfl (oper_build (cs := [(.d (.str [117, 112])), (.d (.int .i64 0)), (.d (.int .i64 z5))]) zo29 rfl (place_struct29) (fill1 rfl rfl rfl rfl (fill1 rfl rfl rfl rfl rfl))) rfl ?_
  refine wpO.less (Less.agg' (d := encOn (On.mk [117, 112] 0 z5)) (CellsC.eq rfl (CellsC.eq rfl (CellsC.eq rfl .nil))) ((On.eq _).trans rfl)) ?_
  refine wpO.val rfl (oper_move rfl) rfl ?_
  refine wpO.val rfl (oper_neg rfl) rfl ?_
  refine wpO.val rfl (oper_build (cs := [(.d (.str [100, 111, 119, 110])), (.d (.int .i64 0)), (.d (.int .i64 (IntKind.wrap .i64 (0 - z5))))]) zo29 rfl (place_struct29) (fill1 rfl rfl rfl rfl (fill1 rfl rfl rfl rfl rfl))) rfl ?_
  refine wpO.less (Less.agg' (d := encOn (On.mk [100, 111, 119, 110] 0 (IntKind.wrap .i64 (0 - z5)))) (CellsC.eq rfl (CellsC.eq rfl (CellsC.eq rfl .nil))) ((On.eq _).trans rfl)) ?_
  refine wpO.val rfl (oper_build (cs := [(.d (.str [117, 112])), (.d (.int .i64 1)), (.d (.int .i64 1))]) zo29 rfl (place_struct29) (fill1 rfl rfl rfl rfl (fill1 rfl rfl rfl rfl (fill1 rfl rfl rfl rfl rfl)))) rfl ?_
  refine wpO.less (Less.agg' (d := encOn (On.mk [117, 112] 1 1)) (CellsC.eq rfl (CellsC.eq rfl (CellsC.eq rfl .nil))) ((On.eq _).trans rfl)) ?_
  refine wpO.val rfl (oper_buildSlice (vs := [(.d (encOn (On.mk [117, 112] 0 z5))), (.d (encOn (On.mk [100, 111, 119, 110] 0 (IntKind.wrap .i64 (0 - z5))))), (.d (encOn (On.mk [117, 112] 1 1)))]) (ds := [(encOn (On.mk [117, 112] 0 z5)), (encOn (On.mk [100, 111, 119, 110] 0 (IntKind.wrap .i64 (0 - z5)))), (encOn (On.mk [117, 112] 1 1))]) rw30 el30 ag29 zo29 sz29 rfl (by decide) (.cons rfl (On.len _) (.cons rfl (On.len _) (.cons rfl (On.len _) .nil))) rfl (by intro d hd; simp only [List.mem_cons, List.not_mem_nil, or_false] at hd; rcases hd with rfl | rfl | rfl <;> exact On.agg _) rfl) rfl ?_
  refine wpO.val rfl (oper_build (cs := [(.d (.int .i64 (Tpl.mk 1 0 [112] [] [] []).Kind)), (.d (.int .i64 (Tpl.mk 1 0 [112] [] [] []).N)), (.d (.str (Tpl.mk 1 0 [112] [] [] []).Tag)), (.d (.str (Tpl.mk 1 0 [112] [] [] []).Text)), (.d (.sl (((Tpl.mk 1 0 [112] [] [] []).Attrs).map encAttr) false)), (.d (.sl (((Tpl.mk 1 0 [112] [] [] []).Kids).map encTpl) false)), (.d (.sl (([z4, 0]).map (D.int .i64)) true)), (.d (.sl (([(On.mk [117, 112] 0 z5), (On.mk [100, 111, 119, 110] 0 (IntKind.wrap .i64 (0 - z5))), (On.mk [117, 112] 1 1)]).map encOn) true))]) zo32 rfl (place_struct32) (fill1 rfl (cellsP_d (Tpl.cellsA _)) rfl rfl (fill1 rfl rfl rfl rfl (fill1 rfl rfl rfl rfl rfl)))) rfl ?_
  refine wpO.less (Less.agg' (d := encComp (Comp.mk (Tpl.mk 1 0 [112] [] [] []) [z4, 0] [(On.mk [117, 112] 0 z5), (On.mk [100, 111, 119, 110] 0 (IntKind.wrap .i64 (0 - z5))), (On.mk [117, 112] 1 1)])) (CellsC.eq rfl (CellsC.eq rfl (CellsC.eq rfl (CellsC.eq rfl (CellsC.eq rfl (CellsC.eq rfl (CellsC.consW rfl (.untight _ _) rfl rfl (CellsC.consW rfl (.untight _ _) rfl rfl .nil)))))))) ((Comp.eq _).trans rfl)) ?_
  refine wpO.alloc H0 rfl ob32 zo32 rfl rfl (fun b6 S7 H8 => ?_)
  refine wpO.store H8 (i := 0) rfl rfl rfl rfl (Comp.cellsA _) rfl sz32 rfl as32 rfl rfl rfl (fun S9 H10 => ?_)
  refine wpO.nil ?_
  refine WpC.seq ?_
  refine WpC.region E.obj rfl ?_
  refine wpO.val rfl (oper_load H10 (i := 0) rfl rfl (part_agg ag32 sz32 rfl)) rfl ?_
  refine wpO.less (Less.agg' (d := encComp (Comp.mk (Tpl.mk 1 0 [112] [] [] []) [z4, 0] [(On.mk [117, 112] 0 z5), (On.mk [100, 111, 119, 110] 0 (IntKind.wrap .i64 (0 - z5))), (On.mk [117, 112] 1 1)])) (CellsC.eq rfl (CellsC.eq rfl (CellsC.eq rfl (CellsC.eq rfl (CellsC.eq rfl (CellsC.eq rfl (CellsC.eq rfl (CellsC.eq rfl .nil)))))))) ((Comp.eq _).trans rfl)) ?_
  obtain ⟨z11, hzz11, h⟩ := bind_some h
  refine wpO.retM (ins := []) (more := [.box b6 [(.d (.int .i64 (Comp.mk (Tpl.mk 1 0 [112] [] [] []) [z4, 0] [(On.mk [117, 112] 0 z5), (On.mk [100, 111, 119, 110] 0 (IntKind.wrap .i64 (0 - z5))), (On.mk [117, 112] 1 1)]).Tpl.Kind)), (.d (.int .i64 (Comp.mk (Tpl.mk 1 0 [112] [] [] []) [z4, 0] [(On.mk [117, 112] 0 z5), (On.mk [100, 111, 119, 110] 0 (IntKind.wrap .i64 (0 - z5))), (On.mk [117, 112] 1 1)]).Tpl.N)), (.d (.str (Comp.mk (Tpl.mk 1 0 [112] [] [] []) [z4, 0] [(On.mk [117, 112] 0 z5), (On.mk [100, 111, 119, 110] 0 (IntKind.wrap .i64 (0 - z5))), (On.mk [117, 112] 1 1)]).Tpl.Tag)), (.d (.str (Comp.mk (Tpl.mk 1 0 [112] [] [] []) [z4, 0] [(On.mk [117, 112] 0 z5), (On.mk [100, 111, 119, 110] 0 (IntKind.wrap .i64 (0 - z5))), (On.mk [117, 112] 1 1)]).Tpl.Text)), (.d (.sl (((Comp.mk (Tpl.mk 1 0 [112] [] [] []) [z4, 0] [(On.mk [117, 112] 0 z5), (On.mk [100, 111, 119, 110] 0 (IntKind.wrap .i64 (0 - z5))), (On.mk [117, 112] 1 1)]).Tpl.Attrs).map encAttr) false)), (.d (.sl (((Comp.mk (Tpl.mk 1 0 [112] [] [] []) [z4, 0] [(On.mk [117, 112] 0 z5), (On.mk [100, 111, 119, 110] 0 (IntKind.wrap .i64 (0 - z5))), (On.mk [117, 112] 1 1)]).Tpl.Kids).map encTpl) false)), (.d (.sl (((Comp.mk (Tpl.mk 1 0 [112] [] [] []) [z4, 0] [(On.mk [117, 112] 0 z5), (On.mk [100, 111, 119, 110] 0 (IntKind.wrap .i64 (0 - z5))), (On.mk [117, 112] 1 1)]).Init).map (D.int .i64)) false)), (.d (.sl (((Comp.mk (Tpl.mk 1 0 [112] [] [] []) [z4, 0] [(On.mk [117, 112] 0 z5), (On.mk [100, 111, 119, 110] 0 (IntKind.wrap .i64 (0 - z5))), (On.mk [117, 112] 1 1)]).On).map encOn) false))]]) (H10.sel [0] (by decide) rfl) rfl (oper_callF rfl rfl) (comp_New_ok E n _ _ hzz11 ) (.cons (.refl _) .nil) rfl ?_
  rintro v12 S13 l14 hr15 H16
  rcases z11 with _ | x17
  ·
    obtain ⟨rfl, rfl⟩ := hr15
    replace h := optN h
    replace H16 : Has pureSt S13 [.box b6 [(.d (.int .i64 (Comp.mk (Tpl.mk 1 0 [112] [] [] []) [z4, 0] [(On.mk [117, 112] 0 z5), (On.mk [100, 111, 119, 110] 0 (IntKind.wrap .i64 (0 - z5))), (On.mk [117, 112] 1 1)]).Tpl.Kind)), (.d (.int .i64 (Comp.mk (Tpl.mk 1 0 [112] [] [] []) [z4, 0] [(On.mk [117, 112] 0 z5), (On.mk [100, 111, 119, 110] 0 (IntKind.wrap .i64 (0 - z5))), (On.mk [117, 112] 1 1)]).Tpl.N)), (.d (.str (Comp.mk (Tpl.mk 1 0 [112] [] [] []) [z4, 0] [(On.mk [117, 112] 0 z5), (On.mk [100, 111, 119, 110] 0 (IntKind.wrap .i64 (0 - z5))), (On.mk [117, 112] 1 1)]).Tpl.Tag)), (.d (.str (Comp.mk (Tpl.mk 1 0 [112] [] [] []) [z4, 0] [(On.mk [117, 112] 0 z5), (On.mk [100, 111, 119, 110] 0 (IntKind.wrap .i64 (0 - z5))), (On.mk [117, 112] 1 1)]).Tpl.Text)), (.d (.sl (((Comp.mk (Tpl.mk 1 0 [112] [] [] []) [z4, 0] [(On.mk [117, 112] 0 z5), (On.mk [100, 111, 119, 110] 0 (IntKind.wrap .i64 (0 - z5))), (On.mk [117, 112] 1 1)]).Tpl.Attrs).map encAttr) false)), (.d (.sl (((Comp.mk (Tpl.mk 1 0 [112] [] [] []) [z4, 0] [(On.mk [117, 112] 0 z5), (On.mk [100, 111, 119, 110] 0 (IntKind.wrap .i64 (0 - z5))), (On.mk [117, 112] 1 1)]).Tpl.Kids).map encTpl) false)), (.d (.sl (((Comp.mk (Tpl.mk 1 0 [112] [] [] []) [z4, 0] [(On.mk [117, 112] 0 z5), (On.mk [100, 111, 119, 110] 0 (IntKind.wrap .i64 (0 - z5))), (On.mk [117, 112] 1 1)]).Init).map (D.int .i64)) false)), (.d (.sl (((Comp.mk (Tpl.mk 1 0 [112] [] [] []) [z4, 0] [(On.mk [117, 112] 0 z5), (On.mk [100, 111, 119, 110] 0 (IntKind.wrap .i64 (0 - z5))), (On.mk [117, 112] 1 1)]).On).map encOn) false))]] := H16
    refine wpO.val rfl (oper_assign rfl) rfl ?_
    refine wpO.nil ?_
    refine WpC.seq ?_
    refine WpC.seq ?_
    refine WpC.region E.obj rfl ?_
    refine wpO.val rfl (oper_move rfl) rfl ?_
    refine wpO.val rfl (oper_bin rfl rfl (binD_nn up33)) rfl ?_
    refine wpO.nil ?_
    refine WpC.cond rfl (fun hb => ?_) (fun hb => ?_)
    ·
      refine WpC.seq ?_
      refine WpC.region E.obj rfl ?_
      refine wpO.val rfl (oper_assign rfl) rfl ?_
      refine wpO.nil ?_
      have hr := Option.some.inj h
      subst hr
      exact WpC.ret ⟨_, rfl, rfl, end1 (ArgsC.eq .nil)⟩
    ·
      cases hb
  ·
    obtain ⟨b18, rfl, rfl⟩ := hr15
    replace h := optS h
    replace H16 : Has pureSt S13 [.box b18 [(.d (.int .i64 x17.tpl.Kind)), (.d (.int .i64 x17.tpl.N)), (.d (.str x17.tpl.Tag)), (.d (.str x17.tpl.Text)), (.d (.sl ((x17.tpl.Attrs).map encAttr) false)), (.d (.sl ((x17.tpl.Kids).map encTpl) false)), (.d (.sl ((x17.on_).map encOn) false)), (.d (.sl ((x17.state).map (D.int .i64)) false))], .box b6 [(.d (.int .i64 (Comp.mk (Tpl.mk 1 0 [112] [] [] []) [z4, 0] [(On.mk [117, 112] 0 z5), (On.mk [100, 111, 119, 110] 0 (IntKind.wrap .i64 (0 - z5))), (On.mk [117, 112] 1 1)]).Tpl.Kind)), (.d (.int .i64 (Comp.mk (Tpl.mk 1 0 [112] [] [] []) [z4, 0] [(On.mk [117, 112] 0 z5), (On.mk [100, 111, 119, 110] 0 (IntKind.wrap .i64 (0 - z5))), (On.mk [117, 112] 1 1)]).Tpl.N)), (.d (.str (Comp.mk (Tpl.mk 1 0 [112] [] [] []) [z4, 0] [(On.mk [117, 112] 0 z5), (On.mk [100, 111, 119, 110] 0 (IntKind.wrap .i64 (0 - z5))), (On.mk [117, 112] 1 1)]).Tpl.Tag)), (.d (.str (Comp.mk (Tpl.mk 1 0 [112] [] [] []) [z4, 0] [(On.mk [117, 112] 0 z5), (On.mk [100, 111, 119, 110] 0 (IntKind.wrap .i64 (0 - z5))), (On.mk [117, 112] 1 1)]).Tpl.Text)), (.d (.sl (((Comp.mk (Tpl.mk 1 0 [112] [] [] []) [z4, 0] [(On.mk [117, 112] 0 z5), (On.mk [100, 111, 119, 110] 0 (IntKind.wrap .i64 (0 - z5))), (On.mk [117, 112] 1 1)]).Tpl.Attrs).map encAttr) false)), (.d (.sl (((Comp.mk (Tpl.mk 1 0 [112] [] [] []) [z4, 0] [(On.mk [117, 112] 0 z5), (On.mk [100, 111, 119, 110] 0 (IntKind.wrap .i64 (0 - z5))), (On.mk [117, 112] 1 1)]).Tpl.Kids).map encTpl) false)), (.d (.sl (((Comp.mk (Tpl.mk 1 0 [112] [] [] []) [z4, 0] [(On.mk [117, 112] 0 z5), (On.mk [100, 111, 119, 110] 0 (IntKind.wrap .i64 (0 - z5))), (On.mk [117, 112] 1 1)]).Init).map (D.int .i64)) false)), (.d (.sl (((Comp.mk (Tpl.mk 1 0 [112] [] [] []) [z4, 0] [(On.mk [117, 112] 0 z5), (On.mk [100, 111, 119, 110] 0 (IntKind.wrap .i64 (0 - z5))), (On.mk [117, 112] 1 1)]).On).map encOn) false))]] := H16
    refine wpO.val rfl (oper_assign rfl) rfl ?_
    refine wpO.nil ?_
    refine WpC.seq ?_
    refine WpC.seq ?_
    refine WpC.region E.obj rfl ?_
    refine wpO.val rfl (oper_move rfl) rfl ?_
    refine wpO.val rfl (oper_bin rfl rfl (binD_pn up33)) rfl ?_
    refine wpO.nil ?_
    refine WpC.cond rfl (fun hb => ?_) (fun hb => ?_)
    ·
      cases hb
    ·
      refine WpC.skip ?_
      refine WpC.seq ?_
      refine WpC.region E.obj rfl ?_
      refine wpO.val rfl (oper_assign rfl) rfl ?_
      refine wpO.nil ?_
      refine WpC.seq ?_
      refine WpC.seq ?_
      refine WpC.region E.obj rfl ?_
      refine wpO.val rfl (oper_assign rfl) rfl ?_
      refine wpO.nil ?_
      refine WpC.block ?_
      refine WpL.start (B := pureSt) (α := Int × Int × Str × Str × (List Attr) × (List Tpl) × (List On) × (List Int) × Int × Int) (fun k a => porticolaw17_CompSums_l45 n a3 z4 z5 k a.1 a.2.1 a.2.2.1 a.2.2.2.1 a.2.2.2.2.1 a.2.2.2.2.2.1 a.2.2.2.2.2.2.1 a.2.2.2.2.2.2.2.1 a.2.2.2.2.2.2.2.2.1 a.2.2.2.2.2.2.2.2.2 = some r) (fun a => [(2, (.d (.int .i64 a3))), (7, (.d (.int .i64 z4))), (8, (.d (.int .i64 z5))), (10, (.ptr b18 0 0)), (11, (.d (.int .i64 a.2.2.2.2.2.2.2.2.1))), (12, (.d (.int .i64 a.2.2.2.2.2.2.2.2.2)))]) (fun a => [.box b18 [(.d (.int .i64 a.1)), (.d (.int .i64 a.2.1)), (.d (.str a.2.2.1)), (.d (.str a.2.2.2.1)), (.d (.sl ((a.2.2.2.2.1).map encAttr) false)), (.d (.sl ((a.2.2.2.2.2.1).map encTpl) false)), (.d (.sl ((a.2.2.2.2.2.2.1).map encOn) false)), (.d (.sl ((a.2.2.2.2.2.2.2.1).map (D.int .i64)) false))]]) ?_ ?_ n ⟨⟨x17.tpl.Kind, x17.tpl.N, x17.tpl.Tag, x17.tpl.Text, x17.tpl.Attrs, x17.tpl.Kids, x17.on_, x17.state, 0, 0⟩, _, _, S13, .refl _ _, .refl _, (WeakE.cons rfl (.refl _) (WeakE.cons rfl (.refl _) (WeakE.cons rfl (.refl _) (WeakE.cons rfl (.refl _) (WeakE.cons rfl (.refl _) (WeakE.cons rfl (.refl _) WeakE.nil)))))), H16.sel [0] (by decide) rfl, h⟩
      · intro a h; simp [porticolaw17_CompSums_l45] at h
      ·
        intro k45 a S33 H34 h
        obtain ⟨x35, x36, x37, x38, x39, x40, x41, x42, x43, x44⟩ := a
        replace h : porticolaw17_CompSums_l45 n a3 z4 z5 (k45 + 1) x35 x36 x37 x38 x39 x40 x41 x42 x43 x44 = some r := h
        replace H34 : Has pureSt S33 [.box b18 [(.d (.int .i64 x35)), (.d (.int .i64 x36)), (.d (.str x37)), (.d (.str x38)), (.d (.sl ((x39).map encAttr) false)), (.d (.sl ((x40).map encTpl) false)), (.d (.sl ((x41).map encOn) false)), (.d (.sl ((x42).map (D.int .i64)) false))]] := H34
        unfold porticolaw17_CompSums_l45 at h
        refine WpC.seq ?_
        refine WpC.seq ?_
        refine WpC.region E.obj rfl ?_
        refine wpO.val rfl (oper_move rfl) rfl ?_
        refine wpO.val rfl (oper_move rfl) rfl ?_
        obtain ⟨z46, hzz46, h⟩ := bind_some h
        refine wpO.ret rfl (oper_callF rfl rfl) (porticobook_Within_ok E _ _ _ _ _ hzz46 _ _ (ArgsC.eq (ArgsC.eq (ArgsC.eq .nil)))) rfl ?_
        refine wpO.val rfl (oper_bin rfl rfl binD_lss) rfl ?_
        refine wpO.nil ?_
        refine WpC.cond rfl (fun hb47 => ?_) (fun hb47 => ?_)
        ·
          replace h := if_t hb47 h
          refine WpC.skip ?_
          refine WpC.seq ?_
          refine WpC.block ?_
          refine WpC.seq ?_
          refine WpC.region E.obj rfl ?_
          refine wpO.val rfl (oper_move rfl) rfl ?_
          refine wpO.val rfl (oper_move rfl) rfl ?_
          refine wpO.val rfl (oper_move rfl) rfl ?_
          refine wpO.val rfl (oper_bin rfl rfl binD_add) rfl ?_
          refine wpO.val rfl (oper_bin rfl rfl binD_mul) rfl ?_
          refine wpO.val rfl (oper_bin rfl rfl binD_add) rfl ?_
          refine wpO.val rfl (oper_bin rfl rfl binD_leq) rfl ?_
          refine wpO.val rfl (oper_assign rfl) rfl ?_
          refine wpO.nil ?_
          refine WpC.seq ?_
          refine WpC.seq ?_
          refine WpC.region E.obj rfl ?_
          refine wpO.val rfl (oper_move rfl) rfl ?_
          obtain ⟨z48, hzz48, h⟩ := bind_some h
          refine wpO.retM (ins := [.box b18 [(.d (.int .i64 x35)), (.d (.int .i64 x36)), (.d (.str x37)), (.d (.str x38)), (.d (.sl ((x39).map encAttr) false)), (.d (.sl ((x40).map encTpl) false)), (.d (.sl ((x41).map encOn) false)), (.d (.sl ((x42).map (D.int .i64)) false))]]) (more := []) (H34.sel [0] (by decide) rfl) rfl (oper_callF rfl rfl) (comp_Instance_Hear_ok E n _ _ _ hzz48 b18) (.cons (.refl _) (.cons (.refl _) .nil)) rfl ?_
          rintro _ S49 _ ⟨rfl, rfl⟩ H50
          replace H50 : Has pureSt S49 [.box b18 [(.d (.int .i64 z48.2.tpl.Kind)), (.d (.int .i64 z48.2.tpl.N)), (.d (.str z48.2.tpl.Tag)), (.d (.str z48.2.tpl.Text)), (.d (.sl ((z48.2.tpl.Attrs).map encAttr) false)), (.d (.sl ((z48.2.tpl.Kids).map encTpl) false)), (.d (.sl ((z48.2.on_).map encOn) false)), (.d (.sl ((z48.2.state).map (D.int .i64)) false))]] := H50
          refine wpO.val rfl (oper_bin rfl rfl binD_eql) rfl ?_
          refine wpO.val rfl (oper_move rfl) rfl ?_
          refine wpO.val rfl (oper_bin rfl rfl (binD_bneq ub4)) rfl ?_
          refine wpO.nil ?_
          refine WpC.cond rfl (fun hb51 => ?_) (fun hb51 => ?_)
          ·
            replace h := if_t hb51 h
            refine WpC.seq ?_
            refine WpC.region E.obj rfl ?_
            refine wpO.val rfl (oper_assign rfl) rfl ?_
            refine wpO.nil ?_
            have hr := Option.some.inj h
            subst hr
            exact WpC.ret ⟨_, rfl, rfl, end1 (ArgsC.eq .nil)⟩
          ·
            replace h := if_f hb51 h
            refine WpC.skip ?_
            refine WpC.join (B := pureSt) (α := Int) (fun a => porticolaw17_CompSums_j55 n z4 z5 x44 (porticolaw17_CompSums_l45 n a3 z4 z5 k45) z48 a = some r) (fun a => [(2, (.d (.int .i64 a3))), (7, (.d (.int .i64 z4))), (8, (.d (.int .i64 z5))), (10, (.ptr b18 0 0)), (11, (.d (.int .i64 a))), (12, (.d (.int .i64 x44)))]) (fun a => [.box b18 [(.d (.int .i64 z48.2.tpl.Kind)), (.d (.int .i64 z48.2.tpl.N)), (.d (.str z48.2.tpl.Tag)), (.d (.str z48.2.tpl.Text)), (.d (.sl ((z48.2.tpl.Attrs).map encAttr) false)), (.d (.sl ((z48.2.tpl.Kids).map encTpl) false)), (.d (.sl ((z48.2.on_).map encOn) false)), (.d (.sl ((z48.2.state).map (D.int .i64)) false))]]) ?_ ?_
            ·
              intro x54 S52 H53 h
              replace h : porticolaw17_CompSums_j55 n z4 z5 x44 (porticolaw17_CompSums_l45 n a3 z4 z5 k45) z48 x54 = some r := h
              replace H53 : Has pureSt S52 [.box b18 [(.d (.int .i64 z48.2.tpl.Kind)), (.d (.int .i64 z48.2.tpl.N)), (.d (.str z48.2.tpl.Tag)), (.d (.str z48.2.tpl.Text)), (.d (.sl ((z48.2.tpl.Attrs).map encAttr) false)), (.d (.sl ((z48.2.tpl.Kids).map encTpl) false)), (.d (.sl ((z48.2.on_).map encOn) false)), (.d (.sl ((z48.2.state).map (D.int .i64)) false))]] := H53
              unfold porticolaw17_CompSums_j55 at h
              refine WpC.seq ?_
              refine WpC.region E.obj rfl ?_
              refine wpO.val rfl (oper_move rfl) rfl ?_
              obtain ⟨z56, hzz56, h⟩ := bind_some h
              refine wpO.retM (ins := [.box b18 [(.d (.int .i64 z48.2.tpl.Kind)), (.d (.int .i64 z48.2.tpl.N)), (.d (.str z48.2.tpl.Tag)), (.d (.str z48.2.tpl.Text)), (.d (.sl ((z48.2.tpl.Attrs).map encAttr) false)), (.d (.sl ((z48.2.tpl.Kids).map encTpl) false)), (.d (.sl ((z48.2.on_).map encOn) false)), (.d (.sl ((z48.2.state).map (D.int .i64)) false))]]) (more := []) (H53.sel [0] (by decide) rfl) rfl (oper_callF rfl rfl) (comp_Instance_State_ok E n _ _ hzz56 b18) (.cons (.refl _) .nil) rfl ?_
              rintro _ S57 _ ⟨rfl, rfl⟩ H58
              replace H58 : Has pureSt S57 [.box b18 [(.d (.int .i64 z48.2.tpl.Kind)), (.d (.int .i64 z48.2.tpl.N)), (.d (.str z48.2.tpl.Tag)), (.d (.str z48.2.tpl.Text)), (.d (.sl ((z48.2.tpl.Attrs).map encAttr) false)), (.d (.sl ((z48.2.tpl.Kids).map encTpl) false)), (.d (.sl ((z48.2.on_).map encOn) false)), (.d (.sl ((z48.2.state).map (D.int .i64)) false))]] := H58
              refine wpO.val rfl (oper_move rfl) rfl ?_
              refine wpO.val rfl (oper_move rfl) rfl ?_
              refine wpO.val rfl (oper_move rfl) rfl ?_
              refine wpO.val rfl (oper_bin rfl rfl binD_mul) rfl ?_
              refine wpO.val rfl (oper_bin rfl rfl binD_add) rfl ?_
              refine wpO.val rfl (oper_move rfl) rfl ?_
              refine wpO.val rfl (oper_buildSlice (vs := [(.d (.int .i64 (IntKind.wrap .i64 (z4 + (IntKind.wrap .i64 (z5 * x54)))))), (.d (.int .i64 x54))]) (ds := [(.int .i64 (IntKind.wrap .i64 (z4 + (IntKind.wrap .i64 (z5 * x54))))), (.int .i64 x54)]) rw27 el27 ag3 zo3 sz3 rfl (by decide) (.cons rfl rfl (.cons rfl rfl .nil)) rfl (by intro d hd; simp only [List.mem_cons, List.not_mem_nil, or_false] at hd; rcases hd with rfl | rfl <;> rfl) rfl) rfl ?_
              obtain ⟨z59, hzz59, h⟩ := bind_some h
              refine wpO.ret rfl (oper_callF rfl rfl) (porticobook_Same_int_ok E _ _ _ _ hzz59 _ _ (ArgsC.eq (ArgsC.consW rfl (.untight _ _) .nil))) rfl ?_
              refine wpO.val rfl (oper_not rfl) rfl ?_
              refine wpO.nil ?_
              refine WpC.cond rfl (fun hb60 => ?_) (fun hb60 => ?_)
              ·
                replace h := if_t hb60 h
                refine WpC.seq ?_
                refine WpC.region E.obj rfl ?_
                refine wpO.val rfl (oper_assign rfl) rfl ?_
                refine wpO.nil ?_
                have hr := Option.some.inj h
                subst hr
                exact WpC.ret ⟨_, rfl, rfl, end1 (ArgsC.eq .nil)⟩
              ·
                replace h := if_f hb60 h
                refine WpC.skip ?_
                refine WpC.region E.obj rfl ?_
                refine wpO.val rfl (oper_move rfl) rfl ?_
                refine wpO.val rfl (oper_bin rfl rfl binD_add) rfl ?_
                refine wpO.val rfl (oper_assign rfl) rfl ?_
                refine wpO.nil ?_
                exact ⟨⟨z48.2.tpl.Kind, z48.2.tpl.N, z48.2.tpl.Tag, z48.2.tpl.Text, z48.2.tpl.Attrs, z48.2.tpl.Kids, z48.2.on_, z48.2.state, x54, (IntKind.wrap .i64 (x44 + 1))⟩, _, _, S57, .refl _ _, .refl _, (WeakE.cons rfl (.refl _) (WeakE.cons rfl (.refl _) (WeakE.cons rfl (.refl _) (WeakE.cons rfl (.refl _) (WeakE.cons rfl (.refl _) (WeakE.cons rfl (.refl _) WeakE.nil)))))), H58.sel [0] (by decide) rfl, h⟩
            ·
              refine WpC.seq ?_
              refine WpC.region E.obj rfl ?_
              refine wpO.val rfl (oper_move rfl) rfl ?_
              refine wpO.nil ?_
              refine WpC.cond rfl (fun hb61 => ?_) (fun hb61 => ?_)
              ·
                replace h := if_t hb61 h
                refine WpC.region E.obj rfl ?_
                refine wpO.val rfl (oper_move rfl) rfl ?_
                refine wpO.val rfl (oper_bin rfl rfl binD_add) rfl ?_
                refine wpO.val rfl (oper_assign rfl) rfl ?_
                refine wpO.nil ?_
                exact ⟨(IntKind.wrap .i64 (x43 + 1)), _, _, S49, .refl _ _, .refl _, (WeakE.cons rfl (.refl _) (WeakE.cons rfl (.refl _) (WeakE.cons rfl (.refl _) (WeakE.cons rfl (.refl _) (WeakE.cons rfl (.refl _) (WeakE.cons rfl (.refl _) WeakE.nil)))))), H50.sel [0] (by decide) rfl, h⟩
              ·
                replace h := if_f hb61 h
                refine WpC.skip ?_
                exact ⟨x43, _, _, S49, .refl _ _, .refl _, (WeakE.cons rfl (.refl _) (WeakE.cons rfl (.refl _) (WeakE.cons rfl (.refl _) (WeakE.cons rfl (.refl _) (WeakE.cons rfl (.refl _) (WeakE.cons rfl (.refl _) WeakE.nil)))))), H50.sel [0] (by decide) rfl, h⟩
        ·
          replace h := if_f hb47 h
          refine WpC.exit ?_
          refine WpC.seq ?_
          refine WpC.seq ?_
          refine WpC.region E.obj rfl ?_
          refine wpO.val rfl (oper_assign rfl) rfl ?_
          refine wpO.nil ?_
          refine WpC.block ?_
          refine WpL.start (B := pureSt) (α := Int × Int × Str × Str × (List Attr) × (List Tpl) × (List On) × (List Int) × Int) (fun k a => porticolaw17_CompSums_l86 n z4 x43 k a.1 a.2.1 a.2.2.1 a.2.2.2.1 a.2.2.2.2.1 a.2.2.2.2.2.1 a.2.2.2.2.2.2.1 a.2.2.2.2.2.2.2.1 a.2.2.2.2.2.2.2.2 = some r) (fun a => [(7, (.d (.int .i64 z4))), (10, (.ptr b18 0 0)), (11, (.d (.int .i64 x43))), (14, (.d (.int .i64 a.2.2.2.2.2.2.2.2)))]) (fun a => [.box b18 [(.d (.int .i64 a.1)), (.d (.int .i64 a.2.1)), (.d (.str a.2.2.1)), (.d (.str a.2.2.2.1)), (.d (.sl ((a.2.2.2.2.1).map encAttr) false)), (.d (.sl ((a.2.2.2.2.2.1).map encTpl) false)), (.d (.sl ((a.2.2.2.2.2.2.1).map encOn) false)), (.d (.sl ((a.2.2.2.2.2.2.2.1).map (D.int .i64)) false))]]) ?_ ?_ n ⟨⟨x35, x36, x37, x38, x39, x40, x41, x42, 0⟩, _, _, S33, .refl _ _, .refl _, (WeakE.cons rfl (.refl _) (WeakE.cons rfl (.refl _) (WeakE.cons rfl (.refl _) (WeakE.cons rfl (.refl _) WeakE.nil)))), H34.sel [0] (by decide) rfl, h⟩
          · intro a h; simp [porticolaw17_CompSums_l86] at h
          ·
            intro k86 a S75 H76 h
            obtain ⟨x77, x78, x79, x80, x81, x82, x83, x84, x85⟩ := a
            replace h : porticolaw17_CompSums_l86 n z4 x43 (k86 + 1) x77 x78 x79 x80 x81 x82 x83 x84 x85 = some r := h
            replace H76 : Has pureSt S75 [.box b18 [(.d (.int .i64 x77)), (.d (.int .i64 x78)), (.d (.str x79)), (.d (.str x80)), (.d (.sl ((x81).map encAttr) false)), (.d (.sl ((x82).map encTpl) false)), (.d (.sl ((x83).map encOn) false)), (.d (.sl ((x84).map (D.int .i64)) false))]] := H76
            unfold porticolaw17_CompSums_l86 at h
            refine WpC.seq ?_
            refine WpC.seq ?_
            refine WpC.region E.obj rfl ?_
            refine wpO.val rfl (oper_move rfl) rfl ?_
            refine wpO.val rfl (oper_move rfl) rfl ?_
            refine wpO.val rfl (oper_bin rfl rfl binD_lss) rfl ?_
            refine wpO.nil ?_
            refine WpC.cond rfl (fun hb87 => ?_) (fun hb87 => ?_)
            ·
              replace h := if_t hb87 h
              refine WpC.skip ?_
              refine WpC.seq ?_
              refine WpC.block ?_
              refine WpC.seq ?_
              refine WpC.region E.obj rfl ?_
              refine wpO.val rfl (oper_move rfl) rfl ?_
              obtain ⟨z88, hzz88, h⟩ := bind_some h
              refine wpO.retM (ins := [.box b18 [(.d (.int .i64 x77)), (.d (.int .i64 x78)), (.d (.str x79)), (.d (.str x80)), (.d (.sl ((x81).map encAttr) false)), (.d (.sl ((x82).map encTpl) false)), (.d (.sl ((x83).map encOn) false)), (.d (.sl ((x84).map (D.int .i64)) false))]]) (more := []) (H76.sel [0] (by decide) rfl) rfl (oper_callF rfl rfl) (comp_Instance_Hear_ok E n _ _ _ hzz88 b18) (.cons (.refl _) (.cons (.refl _) .nil)) rfl ?_
              rintro _ S89 _ ⟨rfl, rfl⟩ H90
              replace H90 : Has pureSt S89 [.box b18 [(.d (.int .i64 z88.2.tpl.Kind)), (.d (.int .i64 z88.2.tpl.N)), (.d (.str z88.2.tpl.Tag)), (.d (.str z88.2.tpl.Text)), (.d (.sl ((z88.2.tpl.Attrs).map encAttr) false)), (.d (.sl ((z88.2.tpl.Kids).map encTpl) false)), (.d (.sl ((z88.2.on_).map encOn) false)), (.d (.sl ((z88.2.state).map (D.int .i64)) false))]] := H90
              refine wpO.val rfl (oper_bin rfl rfl binD_neq) rfl ?_
              refine wpO.nil ?_
              refine WpC.cond rfl (fun hb91 => ?_) (fun hb91 => ?_)
              ·
                replace h := if_t hb91 h
                refine WpC.seq ?_
                refine WpC.region E.obj rfl ?_
                refine wpO.val rfl (oper_assign rfl) rfl ?_
                refine wpO.nil ?_
                have hr := Option.some.inj h
                subst hr
                exact WpC.ret ⟨_, rfl, rfl, end1 (ArgsC.eq .nil)⟩
              ·
                replace h := if_f hb91 h
                refine WpC.skip ?_
                refine WpC.region E.obj rfl ?_
                refine wpO.val rfl (oper_move rfl) rfl ?_
                refine wpO.val rfl (oper_bin rfl rfl binD_add) rfl ?_
                refine wpO.val rfl (oper_assign rfl) rfl ?_
                refine wpO.nil ?_
                exact ⟨⟨z88.2.tpl.Kind, z88.2.tpl.N, z88.2.tpl.Tag, z88.2.tpl.Text, z88.2.tpl.Attrs, z88.2.tpl.Kids, z88.2.on_, z88.2.state, (IntKind.wrap .i64 (x85 + 1))⟩, _, _, S89, .refl _ _, .refl _, (WeakE.cons rfl (.refl _) (WeakE.cons rfl (.refl _) (WeakE.cons rfl (.refl _) (WeakE.cons rfl (.refl _) WeakE.nil)))), H90.sel [0] (by decide) rfl, h⟩
            ·
              replace h := if_f hb87 h
              refine WpC.exit ?_
              refine WpC.seq ?_
              refine WpC.region E.obj rfl ?_
              refine wpO.val rfl (oper_move rfl) rfl ?_
              obtain ⟨z92, hzz92, h⟩ := bind_some h
              refine wpO.retM (ins := [.box b18 [(.d (.int .i64 x77)), (.d (.int .i64 x78)), (.d (.str x79)), (.d (.str x80)), (.d (.sl ((x81).map encAttr) false)), (.d (.sl ((x82).map encTpl) false)), (.d (.sl ((x83).map encOn) false)), (.d (.sl ((x84).map (D.int .i64)) false))]]) (more := []) (H76.sel [0] (by decide) rfl) rfl (oper_callF rfl rfl) (comp_Instance_State_ok E n _ _ hzz92 b18) (.cons (.refl _) .nil) rfl ?_
              rintro _ S93 _ ⟨rfl, rfl⟩ H94
              replace H94 : Has pureSt S93 [.box b18 [(.d (.int .i64 x77)), (.d (.int .i64 x78)), (.d (.str x79)), (.d (.str x80)), (.d (.sl ((x81).map encAttr) false)), (.d (.sl ((x82).map encTpl) false)), (.d (.sl ((x83).map encOn) false)), (.d (.sl ((x84).map (D.int .i64)) false))]] := H94
              refine wpO.val rfl (oper_move rfl) rfl ?_
              refine wpO.val rfl (oper_move rfl) rfl ?_
              refine wpO.val rfl (oper_buildSlice (vs := [(.d (.int .i64 z4)), (.d (.int .i64 x43))]) (ds := [(.int .i64 z4), (.int .i64 x43)]) rw27 el27 ag3 zo3 sz3 rfl (by decide) (.cons rfl rfl (.cons rfl rfl .nil)) rfl (by intro d hd; simp only [List.mem_cons, List.not_mem_nil, or_false] at hd; rcases hd with rfl | rfl <;> rfl) rfl) rfl ?_
              obtain ⟨z95, hzz95, h⟩ := bind_some h
              refine wpO.ret rfl (oper_callF rfl rfl) (porticobook_Same_int_ok E _ _ _ _ hzz95 _ _ (ArgsC.eq (ArgsC.consW rfl (.untight _ _) .nil))) rfl ?_
              refine wpO.val rfl (oper_move rfl) rfl ?_
              obtain ⟨z97, hzz97, h⟩ := bind_some h
              refine wpO.groupV 2 82 (.d (.bool z97)) ?_ ?_
              ·
                rcases Bool.eq_false_or_eq_true (z95) with hB96 | hB96
                ·
                  refine wpO.bool hB96 ?_
                  replace hzz97 := if_t hB96 hzz97
                  obtain ⟨z98, hzz98, hzz97⟩ := bind_some hzz97
                  refine wpO.ret rfl (oper_callF rfl rfl) (E.porticolaw17_CompRuns_ok _  _ hzz98 _ _ .nil) rfl ?_
                  refine wpO.val rfl (oper_pick (b := true) rfl rfl) rfl ?_
                  cases hzz97
                  exact wpO.nil ⟨_, rfl, (WeakE.put (WeakE.push rfl (WeakE.put (.refl _) (Less.eq (by rw [hB96])))) (.refl _))⟩
                ·
                  refine wpO.bool hB96 ?_
                  refine wpO.no rfl rfl ?_
                  refine wpO.val rfl (oper_pick (b := false) rfl rfl) rfl ?_
                  replace hzz97 := if_f hB96 hzz97
                  cases hzz97
                  exact wpO.nil ⟨_, rfl, (WeakE.put (WeakE.push rfl (WeakE.put (.refl _) (Less.eq (by rw [hB96])))) (.refl _))⟩
              ·
                refine wpO.val rfl (oper_assign rfl) rfl ?_
                refine wpO.nil ?_
                have hr := Option.some.inj h
                subst hr
                exact WpC.ret ⟨_, rfl, rfl, end1 (ArgsC.eq .nil)⟩
end
end Pr
end Go.Ev


namespace Go.Ev
namespace Pr
set_option linter.unusedVariables false
set_option linter.unusedSimpArgs false
open Go.Proofs
section
variable {R : ObjR} (E : PrOk R)
include E
end
end Pr
end Go.Ev


namespace Go.Ev
namespace Pr
set_option linter.unusedVariables false
set_option linter.unusedSimpArgs false

/-! ### Laws of what the functions are made of -/
theorem w64 {n : Int} (h0 : -9223372036854775808 ≤ n) (h1 : n ≤ 9223372036854775807) : IntKind.wrap .i64 n = n := Go.IntWalk.i64_in n ⟨h0, h1⟩
theorem idx_nat {α : Type} (l : List α) (i : Nat) : idx l (i : Int) = l[i]? := by
  unfold idx
  rw [if_pos (by omega)]
  simp
theorem idx_mid {α : Type} {l done rest : List α} {z : α} (h : l = done ++ z :: rest) : idx l (done.length : Int) = some z := by
  rw [idx_nat, h]; simp
theorem idx_in {α : Type} (l : List α) {i : Int} (h0 : 0 ≤ i) (h1 : i < l.length) : ∃ x, idx l i = some x ∧ x ∈ l ∧ l[i.toNat]? = some x := by
  obtain ⟨j, rfl⟩ := Int.eq_ofNat_of_zero_le h0
  have hj : j < l.length := by omega
  exact ⟨l[j], by rw [idx_nat]; exact List.getElem?_eq_getElem hj, List.getElem_mem hj, by simp [hj]⟩
theorem app_ok {α : Type} {nb : Nat} {l ys : List α} (h : (l.length + ys.length) * nb ≤ bound) : app nb l ys = some (l ++ ys) := by
  unfold app; rw [if_pos h]
theorem remI_ok {k : IntKind} {a b : Int} (h : b ≠ 0) : remI k a b = some (a.tmod b) := by
  unfold remI; rw [if_neg h]
theorem bnd : bound = 70368744177664 := rfl
end Pr
end Go.Ev


namespace Go.Ev
namespace Pr
set_option linter.unusedVariables false
set_option linter.unusedSimpArgs false

/-! ### Numbers brought into bounds -/
theorem within_ok (n : Nat) (a lo hi : Int) (h1 : lo ≤ hi) (h2 : -1000000000000 ≤ lo) (h3 : hi ≤ 1000000000000000) : ∃ r, porticobook_Within n a lo hi = some r ∧ lo ≤ r ∧ r ≤ hi := by
  unfold porticobook_Within
  rw [w64 (n := hi - lo) (by omega) (by omega), w64 (by omega) (by omega), remI_ok (by omega), Option.bind_some]
  have k1 := Int.tmod_lt_of_pos a (show 0 < hi - lo + 1 by omega)
  have k2 := Int.lt_tmod_of_pos a (show 0 < hi - lo + 1 by omega)
  unfold porticobook_Within_j8
  by_cases hz : a.tmod (hi - lo + 1) < 0
  · rw [if_pos (by simpa using hz)]
    rw [w64 (n := a.tmod (hi - lo + 1) + hi) (by omega) (by omega), w64 (n := a.tmod (hi - lo + 1) + hi - lo) (by omega) (by omega), w64 (n := a.tmod (hi - lo + 1) + hi - lo + 1) (by omega) (by omega), w64 (by omega) (by omega)]
    exact ⟨_, rfl, by omega, by omega⟩
  · rw [if_neg (by simpa using hz), w64 (by omega) (by omega)]
    exact ⟨_, rfl, by omega, by omega⟩
/-! ### Is there one in a list? -/
theorem on_loop (l : List On) (q : On → Bool) : ∀ (rest done : List On) (f : Nat), l = done ++ rest → rest.length < f → l.length < 1000000 → ∃ r, slices_IndexFunc__api_On_api_On__l13 l (fun y => some (q y)) f (done.length : Int) = some r ∧ decide (0 ≤ r) = rest.any q
  | [], done, f + 1, h, hf, hl => by
    refine ⟨-1, ?_, rfl⟩
    rw [slices_IndexFunc__api_On_api_On__l13, if_neg (by subst h; simp)]
  | z :: rest, done, f + 1, h, hf, hl => by
    have hd : done.length < l.length := by subst h; simp
    rw [slices_IndexFunc__api_On_api_On__l13, if_pos (by rw [decide_eq_true_eq]; omega), idx_mid h, Option.bind_some, Option.bind_some]
    by_cases hq : q z = true
    · rw [if_pos hq]; exact ⟨_, rfl, by simp [hq]⟩
    · rw [if_neg hq, w64 (by omega) (by omega)]
      obtain ⟨r, h1, h2⟩ := on_loop l q rest (done ++ [z]) f (by simp [h]) (by simp at hf; omega) hl
      refine ⟨r, by rw [← h1]; simp, ?_⟩
      rw [h2]; simp [hq]
theorem on_any (n : Nat) (l : List On) (q : On → Bool) (h : l.length < n) (hl : l.length < 1000000) : slices_ContainsFunc__api_On_api_On_ n l (fun y => some (q y)) = some (l.any q) := by
  obtain ⟨r, h1, h2⟩ := on_loop l q l [] n rfl h hl
  unfold slices_ContainsFunc__api_On_api_On_ slices_IndexFunc__api_On_api_On_
  rw [show (0 : Int) = (([] : List On).length : Int) from rfl, h1, Option.bind_some, ← h2]; rfl
theorem int_loop (l : List Int) (q : Int → Bool) : ∀ (rest done : List Int) (f : Nat), l = done ++ rest → rest.length < f → l.length < 1000000 → ∃ r, slices_IndexFunc__int_int__l13 l (fun y => some (q y)) f (done.length : Int) = some r ∧ decide (0 ≤ r) = rest.any q
  | [], done, f + 1, h, hf, hl => by
    refine ⟨-1, ?_, rfl⟩
    rw [slices_IndexFunc__int_int__l13, if_neg (by subst h; simp)]
  | z :: rest, done, f + 1, h, hf, hl => by
    have hd : done.length < l.length := by subst h; simp
    rw [slices_IndexFunc__int_int__l13, if_pos (by rw [decide_eq_true_eq]; omega), idx_mid h, Option.bind_some, Option.bind_some]
    by_cases hq : q z = true
    · rw [if_pos hq]; exact ⟨_, rfl, by simp [hq]⟩
    · rw [if_neg hq, w64 (by omega) (by omega)]
      obtain ⟨r, h1, h2⟩ := int_loop l q rest (done ++ [z]) f (by simp [h]) (by simp at hf; omega) hl
      refine ⟨r, by rw [← h1]; simp, ?_⟩
      rw [h2]; simp [hq]
theorem int_any (n : Nat) (l : List Int) (q : Int → Bool) (h : l.length < n) (hl : l.length < 1000000) : slices_ContainsFunc__int_int_ n l (fun y => some (q y)) = some (l.any q) := by
  obtain ⟨r, h1, h2⟩ := int_loop l q l [] n rfl h hl
  unfold slices_ContainsFunc__int_int_ slices_IndexFunc__int_int_
  rw [show (0 : Int) = (([] : List Int).length : Int) from rfl, h1, Option.bind_some, ← h2]; rfl
/-- A number that may be. -/
def mayB (v : Int) : Bool := decide (-1000 ≤ v) && decide (v ≤ 1000)
theorem may_ok (n : Nat) (v : Int) : comp_may n v = some (mayB v) := rfl
theorem all_ok (n : Nat) (l : List Int) (h : l.length < n) (hl : l.length < 1000000) (hm : ∀ v ∈ l, mayB v = true) : comp_all n l = some true := by
  unfold comp_all
  have e : (fun y2 => comp_all_1 n y2) = fun y => some (!mayB y) := by funext y; unfold comp_all_1; rw [may_ok, Option.bind_some]
  rw [e, int_any n l _ h hl, Option.bind_some]
  have : (l.any fun y => !mayB y) = false := by rw [List.any_eq_false]; intro x hx; simp [hm x hx]
  rw [this]; rfl

/-! ### Hearing -/
/-- What an event does to a state; nothing: it can't be. -/
def plays (e : Str) : List On → List Int → Option (List Int)
  | [], c => some c
  | o :: l, c => if o.Event = e then (if mayB (c.getD o.N.toNat 0 + o.Add) = true then plays e l (c.set o.N.toNat (c.getD o.N.toNat 0 + o.Add)) else none) else plays e l c
def onOk (m : Nat) (o : On) : Prop := 0 ≤ o.N ∧ o.N < m ∧ mayB o.Add = true
theorem mayB_iff {v : Int} : mayB v = true ↔ -1000 ≤ v ∧ v ≤ 1000 := by simp [mayB]
theorem idx_getD {l : List Int} {i : Int} (h0 : 0 ≤ i) (h1 : i < l.length) : idx l i = some (l.getD i.toNat 0) := by
  obtain ⟨x, h, _, h2⟩ := idx_in l h0 h1
  rw [h, List.getD_eq_getElem?_getD, h2]; rfl
theorem getD_may {c : List Int} (hc : ∀ v ∈ c, mayB v = true) (i : Nat) : mayB (c.getD i 0) = true := by
  rw [List.getD_eq_getElem?_getD]
  cases h : c[i]? with
  | none => rfl
  | some x => exact hc x (List.mem_of_getElem? h)
theorem hear_loop (n : Nat) (x : comp_Instance) (e : Str) : ∀ (rest done : List On) (f : Nat) (c : List Int), x.on_ = done ++ rest → rest.length < f → x.on_.length < 1000000 → (∀ o ∈ rest, onOk c.length o) → (∀ v ∈ c, mayB v = true) →
    comp_Instance_Hear_l22 n x e f c (done.length : Int) = some (match plays e rest c with | some d => (0, comp_Instance.mk x.tpl x.on_ d) | none => (7, x))
  | [], done, f + 1, c, h, hf, hl, ho, hc => by
    rw [comp_Instance_Hear_l22, if_neg (by rw [h]; simp)]; rfl
  | o :: rest, done, f + 1, c, h, hf, hl, ho, hc => by
    have hd : done.length < x.on_.length := by rw [h]; simp
    have hi := hear_loop n x e rest (done ++ [o]) f
    obtain ⟨o1, o2, o3⟩ := ho o (by simp)
    rw [comp_Instance_Hear_l22, if_pos (by rw [decide_eq_true_eq]; omega), idx_mid h, Option.bind_some]
    have hN : o.N.toNat < c.length := by omega
    by_cases hq : o.Event = e
    · rw [if_neg (by simp [hq]), idx_getD o1 o2, Option.bind_some]
      have hm := mayB_iff.1 (getD_may hc o.N.toNat)
      have ha := mayB_iff.1 o3
      rw [w64 (by omega) (by omega)]
      unfold setI
      rw [idx_getD o1 (by simp; omega), Option.bind_some, may_ok, Option.bind_some]
      have e1 : (c.set o.N.toNat (c.getD o.N.toNat 0 + o.Add)).getD o.N.toNat 0 = c.getD o.N.toNat 0 + o.Add := by simp [hN]
      rw [e1, plays, if_pos hq]
      by_cases hy : mayB (c.getD o.N.toNat 0 + o.Add) = true
      · rw [if_neg (by rw [hy]; decide), if_pos hy]
        unfold comp_Instance_Hear_j27
        rw [w64 (by omega) (by omega)]
        have := hi (c.set o.N.toNat (c.getD o.N.toNat 0 + o.Add)) (by simp [h]) (by simp at hf; omega) hl (fun p hp => by simpa using ho p (by simp [hp])) (fun v hv => by
          rcases List.mem_or_eq_of_mem_set hv with q | q
          · exact hc v q
          · rw [q]; exact hy)
        simp only [List.length_append, List.length_cons, List.length_nil, Nat.zero_add, Int.natCast_add, Int.cast_ofNat_Int] at this
        rw [this]
      · rw [if_pos (by rw [Bool.not_eq_true] at hy; rw [hy]; rfl), if_neg hy]
    · rw [if_pos (by simp [hq]), plays, if_neg hq]
      unfold comp_Instance_Hear_j27
      rw [w64 (by omega) (by omega)]
      have := hi c (by simp [h]) (by simp at hf; omega) hl (fun p hp => ho p (by simp [hp])) hc
      simp only [List.length_append, List.length_cons, List.length_nil, Nat.zero_add, Int.natCast_add, Int.cast_ofNat_Int] at this
      rw [this]
theorem hears_ok (n : Nat) (x : comp_Instance) (e : Str) (h : x.on_.length < n) (hl : x.on_.length < 1000000) : comp_Instance_Hears n x e = some (x.on_.any fun o => o.Event == e) := by
  unfold comp_Instance_Hears
  rw [show (fun y7 => comp_Instance_Hears_1 n y7 e) = fun o : On => some (o.Event == e) from rfl, on_any n _ _ h hl]; rfl
theorem state_ok (n : Nat) (x : comp_Instance) (hl : x.state.length < 1000000) : comp_Instance_State n x = some x.state := by
  unfold comp_Instance_State slices_Clone__int_int_
  rw [app_ok (by rw [bnd]; simp; omega)]; rfl
/-- What comes of an event. -/
def hears (x : comp_Instance) (e : Str) : Int × comp_Instance :=
  if (x.on_.any fun o => o.Event == e) = true then (match plays e x.on_ x.state with | some d => (0, comp_Instance.mk x.tpl x.on_ d) | none => (7, x)) else (7, x)
theorem hear_ok (n : Nat) (x : comp_Instance) (e : Str) (h : x.on_.length < n) (hl : x.on_.length < 1000000) (hs : x.state.length < 1000000) (ho : ∀ o ∈ x.on_, onOk x.state.length o) (hc : ∀ v ∈ x.state, mayB v = true) : comp_Instance_Hear n x e = some (hears x e) := by
  unfold comp_Instance_Hear hears
  rw [hears_ok n x e h hl, Option.bind_some]
  by_cases hq : (x.on_.any fun o => o.Event == e) = true
  · rw [if_neg (by simp only [hq]; decide), state_ok n x hs, Option.bind_some, if_pos hq]
    exact hear_loop n x e x.on_ [] n x.state rfl h hl ho hc
  · rw [if_pos (by simp only [Bool.not_eq_true] at hq; rw [hq]; rfl), if_neg hq]
theorem sint_loop (a b : List Int) : ∀ (rest done rest2 : List Int) (f : Nat), a = done ++ rest → b = done ++ rest2 → rest.length = rest2.length → rest.length < f → a.length < 1000000 → porticobook_Same_int_l12 a b f (done.length : Int) = some (rest == rest2)
  | [], done, [], f + 1, h, h2, _, hf, hl => by rw [porticobook_Same_int_l12, if_neg (by subst h; simp)]; rfl
  | z :: rest, done, y :: rest2, f + 1, h, h2, he, hf, hl => by
    have hd : done.length < a.length := by subst h; simp
    rw [porticobook_Same_int_l12, if_pos (by rw [decide_eq_true_eq]; omega), idx_mid h, idx_mid h2, Option.bind_some, Option.bind_some]
    by_cases hq : z = y
    · subst hq
      rw [if_neg (by simp), w64 (by omega) (by omega)]
      have := sint_loop a b rest (done ++ [z]) rest2 f (by simp [h]) (by simp [h2]) (by simpa using he) (by simp at hf; omega) hl
      simp only [List.length_append, List.length_cons, List.length_nil, Nat.zero_add, Int.natCast_add, Int.cast_ofNat_Int] at this
      rw [this]; simp
    · rw [if_pos (by simp [hq])]; simp [hq]
theorem sint_ok (n : Nat) (a b : List Int) (h : a.length < n) (hl : a.length < 1000000) : porticobook_Same_int n a b = some (a == b) := by
  unfold porticobook_Same_int
  by_cases he : a.length = b.length
  · rw [if_neg (by simp [he])]
    exact sint_loop a b a [] b n rfl rfl he h hl
  · rw [if_pos (by simp; omega)]
    have : (a == b) = false := by rw [beq_eq_false_iff_ne]; intro q; exact he (by rw [q])
    rw [this]
end Pr
end Go.Ev


namespace Go.Ev
namespace Pr
set_option linter.unusedVariables false
set_option linter.unusedSimpArgs false

/-! ### Components that may be, and their instances -/
def letters : Str := [97, 98, 99, 100, 101, 102, 103, 104, 105, 106, 107, 108, 109, 110, 111, 112, 113, 114, 115, 116, 117, 118, 119, 120, 121, 122, 48, 49, 50, 51, 52, 53, 54, 55, 56, 57]
def onNamed (o : On) : Prop := o.Event ≠ [] ∧ o.Event.length ≤ 16 ∧ strings_Trim 0 o.Event letters = some []
theorem right_loop (n : Nat) (c : Comp) : ∀ (rest done : List On) (f : Nat), c.On = done ++ rest → rest.length < f → c.On.length < 1000000 → (∀ o ∈ rest, onOk c.Init.length o ∧ onNamed o) → comp_Right_l21 n c f (done.length : Int) = some true
  | [], done, f + 1, h, hf, hl, ho => by rw [comp_Right_l21, if_neg (by rw [h]; simp)]
  | o :: rest, done, f + 1, h, hf, hl, ho => by
    have hd : done.length < c.On.length := by rw [h]; simp
    obtain ⟨⟨o1, o2, o3⟩, o4, o5, o6⟩ := ho o (by simp)
    have hT : strings_Trim n o.Event [97, 98, 99, 100, 101, 102, 103, 104, 105, 106, 107, 108, 109, 110, 111, 112, 113, 114, 115, 116, 117, 118, 119, 120, 121, 122, 48, 49, 50, 51, 52, 53, 54, 55, 56, 57] = some [] := o6
    rw [comp_Right_l21, if_pos (by rw [decide_eq_true_eq]; omega), idx_mid h, Option.bind_some]
    rw [if_pos (by simp [o4]; omega), hT, Option.bind_some, Option.bind_some, if_neg (by simp; omega), may_ok, Option.bind_some, Option.bind_some, o3, if_neg (by simp), w64 (by omega) (by omega)]
    have := right_loop n c rest (done ++ [o]) f (by simp [h]) (by simp at hf; omega) hl (fun p hp => ho p (by simp [hp]))
    simp only [List.length_append, List.length_cons, List.length_nil, Nat.zero_add, Int.natCast_add, Int.cast_ofNat_Int] at this
    exact this
theorem cright_ok (n : Nat) (hn : 30 < n) (c : Comp) (h1 : c.Init.length ≤ 6) (h2 : ∀ v ∈ c.Init, mayB v = true) (h3 : c.On.length ≤ 24) (h4 : page_Right n c.Tpl (c.Init.length : Int) = some true) (h5 : ∀ o ∈ c.On, onOk c.Init.length o ∧ onNamed o) : comp_Right n c = some true := by
  unfold comp_Right
  rw [if_neg (by simp; omega), all_ok n c.Init (by omega) (by omega) h2, Option.bind_some, Option.bind_some]
  rw [if_neg (by simp; omega), h4, Option.bind_some, Option.bind_some, if_neg (by simp)]
  exact right_loop n c c.On [] n rfl (by omega) (by omega) h5
theorem from_ok (n : Nat) (hn : 30 < n) (c : Comp) (st : List Int) (h1 : c.Init.length ≤ 6) (h2 : comp_Right n c = some true) (h3 : st.length = c.Init.length) (h4 : ∀ v ∈ st, mayB v = true) (h5 : comp_copied n c.Tpl = some c.Tpl) (h6 : c.On.length ≤ 24) : comp_From n c st = some (some (comp_Instance.mk c.Tpl c.On st)) := by
  unfold comp_From
  rw [h2, Option.bind_some, if_neg (by simp [h3]), all_ok n st (by omega) (by omega) h4, Option.bind_some, Option.bind_some, if_neg (by simp), h5, Option.bind_some]
  unfold slices_Clone__api_On_api_On_ slices_Clone__int_int_
  rw [app_ok (by rw [bnd]; simp; omega), Option.bind_some, app_ok (by rw [bnd]; simp; omega), Option.bind_some]; rfl
theorem new_ok (n : Nat) (c : Comp) (x : comp_Instance) (h : comp_From n c c.Init = some (some x)) : comp_New n c = some (some x) := by
  unfold comp_New
  rw [h]; rfl

/-! ### CompSums -/
def sOns (a : Int) : List On := [(On.mk [117, 112] 0 a), (On.mk [100, 111, 119, 110] 0 (-a)), (On.mk [117, 112] 1 1)]
def sTpl : Tpl := Tpl.mk 1 0 [112] [] [] []
def sInst (a s m : Int) : comp_Instance := comp_Instance.mk sTpl (sOns a) [s, m]
theorem sInst_on {a s m : Int} (ha : 1 ≤ a) (hb : a ≤ 300) : ∀ o ∈ (sInst a s m).on_, onOk (sInst a s m).state.length o := by
  intro o ho
  simp only [sInst, sOns, List.mem_cons, List.not_mem_nil, or_false] at ho
  rcases ho with rfl | rfl | rfl <;> refine ⟨by simp, by simp [sInst], ?_⟩ <;> rw [mayB_iff] <;> (constructor <;> simp <;> omega)
theorem sInst_st {a s m : Int} (hs : mayB s = true) (hm : mayB m = true) : ∀ v ∈ (sInst a s m).state, mayB v = true := by
  intro v hv
  simp only [sInst, List.mem_cons, List.not_mem_nil, or_false] at hv
  rcases hv with rfl | rfl
  · exact hs
  · exact hm
theorem sHear (n : Nat) (hn : 10 < n) {a s m : Int} (e : Str) (ha : 1 ≤ a) (hb : a ≤ 300) (hs : mayB s = true) (hm : mayB m = true) : comp_Instance_Hear n (sInst a s m) e = some (hears (sInst a s m) e) :=
  hear_ok n _ e (by simp [sInst, sOns]; omega) (by simp [sInst, sOns]) (by simp [sInst]) (sInst_on ha hb) (sInst_st hs hm)
theorem sUp {a s m : Int} (hm : mayB (m + 1) = true) (h : mayB (s + a) = true) : hears (sInst a s m) [117, 112] = (0, sInst a (s + a) (m + 1)) := by
  simp [hears, sInst, sOns, plays, h, hm]
theorem sUpNo {a s m : Int} (h : mayB (s + a) = false) : hears (sInst a s m) [117, 112] = (7, sInst a s m) := by
  simp [hears, sInst, sOns, plays, h]
theorem sDown {a s m : Int} (h : mayB (s + -a) = true) : hears (sInst a s m) [100, 111, 119, 110] = (0, sInst a (s + -a) m) := by
  simp [hears, sInst, sOns, plays, h]
theorem sDowns (a f m : Int) (ha : 1 ≤ a) (hb : a ≤ 300) (hf0 : -50 ≤ f) (hf1 : f ≤ 50) (hm0 : 0 ≤ m) (hm1 : m ≤ 40) (hs : f + a * m ≤ 1000) : ∀ (d i k : Nat), (i : Int) + d = m → d < k →
    porticolaw17_CompSums_l86 1000 f m k 1 0 [112] [] [] [] (sOns a) [f + a * d, m] (i : Int) = some true
  | 0, i, k + 1, hi, hk => by
    rw [porticolaw17_CompSums_l86, if_neg (by rw [decide_eq_true_eq]; omega)]
    rw [show comp_Instance.mk (Tpl.mk 1 0 [112] [] [] []) (sOns a) [f + a * ((0 : Nat) : Int), m] = sInst a f m by simp [sInst, sTpl], state_ok _ _ (by simp [sInst]), Option.bind_some, sint_ok _ _ _ (by simp [sInst]) (by simp [sInst]), Option.bind_some, if_pos (by simp [sInst])]
    rfl
  | d + 1, i, k + 1, hi, hk => by
    have h1 : a * ((d + 1 : Nat) : Int) = a * (d : Int) + a := by rw [Int.natCast_add, Int.mul_add]; simp
    have h2 : a * (d : Int) + a ≤ a * m := by rw [← h1]; exact Int.mul_le_mul_of_nonneg_left (by omega) (by omega)
    have h3 : 0 ≤ a * (d : Int) := Int.mul_nonneg (by omega) (by omega)
    have e : f + a * ((d + 1 : Nat) : Int) + -a = f + a * d := by omega
    rw [porticolaw17_CompSums_l86, if_pos (by rw [decide_eq_true_eq]; omega)]
    rw [show comp_Instance.mk (Tpl.mk 1 0 [112] [] [] []) (sOns a) [f + a * ((d + 1 : Nat) : Int), m] = sInst a (f + a * ((d + 1 : Nat) : Int)) m from rfl]
    rw [sHear 1000 (by omega) _ ha hb (by rw [mayB_iff]; omega) (by rw [mayB_iff]; omega), Option.bind_some, sDown (by rw [mayB_iff, e]; omega), e, if_neg (by simp), w64 (by omega) (by omega)]
    exact sDowns a f m ha hb hf0 hf1 hm0 hm1 hs d (i + 1) k (by omega) (by omega)
theorem sUps (a3 a f : Int) (ha : 1 ≤ a) (hb : a ≤ 300) (hf0 : -50 ≤ f) (hf1 : f ≤ 50) (t : Int) (ht : porticobook_Within 1000 a3 0 40 = some t) (ht1 : t ≤ 40) : ∀ (d m i k : Nat), i + d = 40 → m ≤ i → d < k → f + a * m ≤ 1000 →
    porticolaw17_CompSums_l45 1000 a3 f a k 1 0 [112] [] [] [] (sOns a) [f + a * m, (m : Int)] (m : Int) (i : Int) = some true := by
  intro d
  induction d with
  | zero =>
    intro m i k hi hm hk hs
    obtain ⟨k, rfl⟩ : ∃ q, k = q + 1 := ⟨k - 1, by omega⟩
    rw [porticolaw17_CompSums_l45, ht, Option.bind_some, if_neg (by rw [decide_eq_true_eq]; omega)]
    exact sDowns a f m ha hb hf0 hf1 (by omega) (by omega) hs m 0 1000 (by simp) (by omega)
  | succ d ih =>
    intro m i k hi hm hk hs
    obtain ⟨k, rfl⟩ : ∃ q, k = q + 1 := ⟨k - 1, by omega⟩
    rw [porticolaw17_CompSums_l45, ht, Option.bind_some]
    by_cases hc : (i : Int) < t
    · rw [if_pos (by rw [decide_eq_true_eq]; exact hc)]
      have h0 : 0 ≤ a * (m : Int) := Int.mul_nonneg (by omega) (by omega)
      have h1 : a * ((m + 1 : Nat) : Int) = a * (m : Int) + a := by rw [Int.natCast_add, Int.mul_add]; simp
      have hw : IntKind.wrap .i64 (f + IntKind.wrap .i64 (a * IntKind.wrap .i64 ((m : Int) + 1))) = f + a * m + a := by
        rw [w64 (n := (m : Int) + 1) (by omega) (by omega), show a * ((m : Int) + 1) = a * m + a by rw [Int.mul_add]; simp, w64 (n := a * m + a) (by omega) (by omega), w64 (by omega) (by omega)]; omega
      rw [show comp_Instance.mk (Tpl.mk 1 0 [112] [] [] []) (sOns a) [f + a * (m : Int), (m : Int)] = sInst a (f + a * m) m from rfl]
      rw [sHear 1000 (by omega) _ ha hb (by rw [mayB_iff]; omega) (by rw [mayB_iff]; omega), Option.bind_some, hw]
      have hsame : ∀ (s : Int), porticobook_Same_int 1000 [s, (m : Int)] [s, (m : Int)] = some true := fun s => by rw [sint_ok _ _ _ (by simp) (by simp)]; simp
      by_cases hv : f + a * m + a ≤ 1000
      · rw [sUp (by rw [mayB_iff]; omega) (by rw [mayB_iff]; omega), if_neg (by simp [hv]), if_pos (by simp [hv])]
        unfold porticolaw17_CompSums_j55
        rw [state_ok _ _ (by simp [sInst]), Option.bind_some, w64 (n := (m : Int) + 1) (by omega) (by omega)]
        rw [show a * ((m : Int) + 1) = a * m + a by rw [Int.mul_add]; simp, w64 (n := a * m + a) (by omega) (by omega), w64 (n := f + (a * m + a)) (by omega) (by omega), w64 (n := (i : Int) + 1) (by omega) (by omega)]
        rw [sint_ok _ _ _ (by simp [sInst]) (by simp [sInst]), Option.bind_some, if_neg (by simp [sInst]; omega)]
        have := ih (m + 1) (i + 1) k (by omega) (by omega) (by omega) (by rw [h1]; omega)
        rw [h1] at this
        rw [← this]
        show porticolaw17_CompSums_l45 1000 a3 f a k 1 0 [112] [] [] [] (sOns a) [f + a * m + a, (m : Int) + 1] ((m : Int) + 1) ((i : Int) + 1) = _
        rw [show f + a * (m : Int) + a = f + (a * m + a) by omega]
        rfl
      · rw [sUpNo (by rw [← Bool.not_eq_true, mayB_iff]; omega), if_neg (by simp [hv]), if_neg (by simp [hv])]
        unfold porticolaw17_CompSums_j55
        rw [state_ok _ _ (by simp [sInst]), Option.bind_some, w64 (n := a * m) (by omega) (by omega), w64 (n := f + a * m) (by omega) (by omega), w64 (n := (i : Int) + 1) (by omega) (by omega)]
        rw [sint_ok _ _ _ (by simp [sInst]) (by simp [sInst]), Option.bind_some, if_neg (by simp [sInst])]
        exact ih m (i + 1) k (by omega) (by omega) (by omega) hs
    · rw [if_neg (by rw [decide_eq_true_eq]; exact hc)]
      exact sDowns a f m ha hb hf0 hf1 (by omega) (by omega) hs m 0 1000 (by simp) (by omega)
theorem compSums_ok (a1 a2 a3 : Int) : porticolaw17_CompSums 1000 a1 a2 a3 = some true := by
  unfold porticolaw17_CompSums
  obtain ⟨f, f1, f2, f3⟩ := within_ok 1000 a1 (-50) 50 (by omega) (by omega) (by omega)
  obtain ⟨a, b1, b2, b3⟩ := within_ok 1000 a2 1 300 (by omega) (by omega) (by omega)
  obtain ⟨t, t1, t2, t3⟩ := within_ok 1000 a3 0 40 (by omega) (by omega) (by omega)
  rw [f1, Option.bind_some, b1, Option.bind_some, w64 (n := 0 - a) (by omega) (by omega), show (0 : Int) - a = -a by omega]
  have hr : comp_Right 1000 (Comp.mk sTpl [f, 0] (sOns a)) = some true := by
    refine cright_ok 1000 (by omega) _ (by simp) (fun v hv => ?_) (by simp [sOns]) rfl (fun o ho => ?_)
    · simp only [List.mem_cons, List.not_mem_nil, or_false] at hv
      rcases hv with rfl | rfl
      · rw [mayB_iff]; omega
      · rfl
    · refine ⟨sInst_on (s := f) (m := 0) b2 b3 o ho, ?_⟩
      simp only [sOns, List.mem_cons, List.not_mem_nil, or_false] at ho
      rcases ho with rfl | rfl | rfl <;> exact ⟨by simp, by simp, rfl⟩
  have hn := new_ok 1000 (Comp.mk sTpl [f, 0] (sOns a)) _ (from_ok 1000 (by omega) _ [f, 0] (by simp) hr rfl (fun v hv => by
    simp only [List.mem_cons, List.not_mem_nil, or_false] at hv
    rcases hv with rfl | rfl
    · rw [mayB_iff]; omega
    · rfl) rfl (by simp [sOns]))
  have hn' : comp_New 1000 (Comp.mk (Tpl.mk 1 0 [112] [] [] []) [f, 0] [(On.mk [117, 112] 0 a), (On.mk [100, 111, 119, 110] 0 (-a)), (On.mk [117, 112] 1 1)]) = _ := hn
  rw [hn', Option.bind_some]
  have := sUps a3 a f b2 b3 f2 f3 t t1 t3 40 0 0 1000 (by omega) (by omega) (by omega) (by simp; omega)
  simp only [Int.natCast_zero, Int.mul_zero, Int.add_zero, Int.ofNat_zero, Int.cast_ofNat_Int] at this
  exact this
end Pr
end Go.Ev


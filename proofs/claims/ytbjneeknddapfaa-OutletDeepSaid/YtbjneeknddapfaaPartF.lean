import Derived.Test.YtbjneeknddapfaaPartE
import Derived.IntWalk
namespace Go.Ev
namespace Pr
set_option linter.unusedVariables false
set_option linter.unusedSimpArgs false
open Go.Proofs
section
variable {R : ObjR} (E : PrOk R)
include E
set_option maxRecDepth 20000 in
set_option maxHeartbeats 4000000 in
theorem porticolaw20_OutletDeep_ok (n : Nat) (a1 : Int) (a2 : Int) (r : Bool) (h : porticolaw20_OutletDeep n a1 a2 = some r) : SpecC R cfg.P 10 [(.int .i64 a1), (.int .i64 a2)] (.d (.bool r)) := by
  unfold porticolaw20_OutletDeep at h
  refine SpecC.of_wp E.obj.toObjOk (C := cfg) Try.func10 rfl nm10 rfl ?_
  have H0 : Has pureSt pureSt [] := Has.pure
  refine WpC.seq ?_
  refine WpC.region E.obj rfl ?_
  refine wpO.val rfl (oper_assign rfl) rfl ?_
  refine wpO.nil ?_
  refine WpC.seq ?_
  refine WpC.region E.obj rfl ?_
  obtain ⟨z3, hzz3, h⟩ := bind_some h
  refine wpO.retM (ins := []) (more := []) (H0.sel [] (by decide) rfl) rfl (oper_callF rfl rfl) (dom_New_ok E n  _ hzz3 ) .nil rfl ?_
  rintro v4 S5 l6 hr7 H8
  rcases z3 with _ | x9
  ·
    obtain ⟨rfl, rfl⟩ := hr7
    replace h := optN h
    replace H8 : Has pureSt S5 [] := H8
    refine wpO.val rfl (oper_assign rfl) rfl ?_
    refine wpO.nil ?_
    refine WpC.seq ?_
    refine WpC.seq ?_
    refine WpC.region E.obj rfl ?_
    refine wpO.val rfl (oper_move rfl) rfl ?_
    refine wpO.val rfl (oper_bin rfl rfl (binD_nn up23)) rfl ?_
    refine wpO.nil ?_
    refine WpC.cond rfl (fun hb => ?_) (fun hb => ?_)
    ·
      refine WpC.seq ?_
      refine WpC.region E.obj rfl ?_
      refine wpO.val rfl (oper_assign rfl) rfl ?_
      refine wpO.nil ?_
      have hr := Option.some.inj h
      subst hr
      exact WpC.ret ⟨_, rfl, rfl, end1 (ArgsC.eq .nil)⟩
    ·
      cases hb
  ·
    obtain ⟨b10, v11, ws12, w13, rfl, rfl⟩ := hr7
    replace h := optS h
    replace H8 : Has pureSt S5 [.box b10 [v11, w13], nestA encdom_node dom_node.kids 7 5 v11 ws12 x9.l none, slkA w13 x9.freed] := H8
    have H14 : Has pureSt S5 [.box b10 [v11, w13], nestA encdom_node dom_node.kids 7 5 v11 ws12 x9.l none, slkA w13 x9.freed] := H8.sel [0, 1, 2] (by decide) rfl
    refine wpO.val rfl (oper_assign rfl) rfl ?_
    refine wpO.nil ?_
    refine WpC.seq ?_
    refine WpC.seq ?_
    refine WpC.region E.obj rfl ?_
    refine wpO.val rfl (oper_move rfl) rfl ?_
    refine wpO.val rfl (oper_bin rfl rfl (binD_pn up23)) rfl ?_
    refine wpO.nil ?_
    refine WpC.cond rfl (fun hb => ?_) (fun hb => ?_)
    ·
      cases hb
    ·
      refine WpC.skip ?_
      refine WpC.seq ?_
      refine WpC.region E.obj rfl ?_
      refine wpO.val rfl (oper_move rfl) rfl ?_
      obtain ⟨z15, hzz15, h⟩ := bind_some h
      refine wpO.ret rfl (oper_callF rfl rfl) (porticobook_Within_ok E _ _ _ _ _ hzz15 _ _ (ArgsC.eq (ArgsC.eq (ArgsC.eq .nil)))) rfl ?_
      refine wpO.val rfl (oper_assign rfl) rfl ?_
      refine wpO.nil ?_
      refine WpC.seq ?_
      refine WpC.region E.obj rfl ?_
      refine wpO.val rfl (oper_assign rfl) rfl ?_
      refine wpO.nil ?_
      refine WpC.seq ?_
      refine WpC.region E.obj rfl ?_
      refine wpO.val rfl (oper_assign rfl) rfl ?_
      refine wpO.nil ?_
      refine WpC.seq ?_
      refine WpC.seq ?_
      refine WpC.region E.obj rfl ?_
      refine wpO.val rfl (oper_assign rfl) rfl ?_
      refine wpO.nil ?_
      refine WpC.block ?_
      have H196 := H14.nilG
      refine WpL.start (B := pureSt) (α := dom_Dom × AV × (List (List AV)) × AV × (List Int) × AV × Int × Int) (fun k a => porticolaw20_OutletDeep_l38 n a2 z15 k a.1 a.2.2.2.2.1 a.2.2.2.2.2.2.1 a.2.2.2.2.2.2.2 = some r) (fun a => [(1, (.d (.int .i64 a2))), (5, (.ptr b10 0 0)), (6, (.d (.int .i64 z15))), (7, a.2.2.2.2.2.1), (8, (.d (.int .i64 a.2.2.2.2.2.2.1))), (9, (.d (.int .i64 a.2.2.2.2.2.2.2)))]) (fun a => [.grow a.2.2.2.2.2.1 ((a.2.2.2.2.1).map (D.int .i64)), .box b10 [a.2.1, a.2.2.2.1], nestA encdom_node dom_node.kids 7 5 a.2.1 a.2.2.1 a.1.l none, slkA a.2.2.2.1 a.1.freed]) ?_ ?_ n ⟨⟨x9, v11, ws12, w13, [], (.d .nils), 1, 0⟩, _, _, S5, .refl _ _, .refl _, (WeakE.cons rfl (.refl _) (WeakE.cons rfl (.refl _) (WeakE.cons rfl (.refl _) (WeakE.cons rfl (.refl _) (WeakE.cons rfl (.refl _) (WeakE.cons rfl (.refl _) WeakE.nil)))))), H196.sel [0, 1, 2, 3] (by decide) rfl, h⟩
      · intro a h; simp [porticolaw20_OutletDeep_l38] at h
      ·
        intro k38 a S28 H29 h
        obtain ⟨x30, v33, ws31, w32, x34, v35, x36, x37⟩ := a
        replace h : porticolaw20_OutletDeep_l38 n a2 z15 (k38 + 1) x30 x34 x36 x37 = some r := h
        replace H29 : Has pureSt S28 [.grow v35 ((x34).map (D.int .i64)), .box b10 [v33, w32], nestA encdom_node dom_node.kids 7 5 v33 ws31 x30.l none, slkA w32 x30.freed] := H29
        unfold porticolaw20_OutletDeep_l38 at h
        refine WpC.seq ?_
        refine WpC.seq ?_
        refine WpC.region E.obj rfl ?_
        refine wpO.val rfl (oper_move rfl) rfl ?_
        refine wpO.val rfl (oper_move rfl) rfl ?_
        refine wpO.val rfl (oper_bin rfl rfl binD_lss) rfl ?_
        refine wpO.nil ?_
        refine WpC.cond rfl (fun hb39 => ?_) (fun hb39 => ?_)
        ·
          replace h := if_t hb39 h
          refine WpC.skip ?_
          refine WpC.seq ?_
          refine WpC.block ?_
          refine WpC.seq ?_
          refine WpC.region E.obj rfl ?_
          refine wpO.val rfl (oper_move rfl) rfl ?_
          refine wpO.val rfl (oper_build (cs := [(.d (.str [])), (.d (.str [])), (.d (.str [120])), (.d .nils), (.d .nils)]) zo39 rfl (place_struct39) (fill1 rfl rfl rfl rfl rfl)) rfl ?_
          refine wpO.less (Less.agg' (d := encTree (Tree.mk [] [] [120] [] [])) (CellsC.eq rfl (CellsC.eq rfl (CellsC.eq rfl (CellsC.consW rfl (.nils false) rfl rfl (CellsC.consW rfl (.nils false) rfl rfl .nil))))) ((Tree.eq _).trans rfl)) ?_
          refine wpO.val rfl (oper_build (cs := [(.d (.str [111, 117, 116, 108, 101, 116])), (.d (.str [])), (.d (.str [])), (.d .nils), (.d .nils)]) zo39 rfl (place_struct39) (fill1 rfl rfl rfl rfl rfl)) rfl ?_
          refine wpO.less (Less.agg' (d := encTree (Tree.mk [111, 117, 116, 108, 101, 116] [] [] [] [])) (CellsC.eq rfl (CellsC.eq rfl (CellsC.eq rfl (CellsC.consW rfl (.nils false) rfl rfl (CellsC.consW rfl (.nils false) rfl rfl .nil))))) ((Tree.eq _).trans rfl)) ?_
          refine wpO.val rfl (oper_build (cs := [(.d (.str [])), (.d (.str [])), (.d (.str [121])), (.d .nils), (.d .nils)]) zo39 rfl (place_struct39) (fill1 rfl rfl rfl rfl rfl)) rfl ?_
          refine wpO.less (Less.agg' (d := encTree (Tree.mk [] [] [121] [] [])) (CellsC.eq rfl (CellsC.eq rfl (CellsC.eq rfl (CellsC.consW rfl (.nils false) rfl rfl (CellsC.consW rfl (.nils false) rfl rfl .nil))))) ((Tree.eq _).trans rfl)) ?_
          refine wpO.val rfl (oper_buildSlice (vs := [(.d (encTree (Tree.mk [] [] [120] [] []))), (.d (encTree (Tree.mk [111, 117, 116, 108, 101, 116] [] [] [] []))), (.d (encTree (Tree.mk [] [] [121] [] [])))]) (ds := [(encTree (Tree.mk [] [] [120] [] [])), (encTree (Tree.mk [111, 117, 116, 108, 101, 116] [] [] [] [])), (encTree (Tree.mk [] [] [121] [] []))]) rw37 el37 ag39 zo39 sz39 rfl (by decide) (.cons rfl (Tree.len _) (.cons rfl (Tree.len _) (.cons rfl (Tree.len _) .nil))) rfl (by intro d hd; simp only [List.mem_cons, List.not_mem_nil, or_false] at hd; rcases hd with rfl | rfl | rfl <;> exact Tree.agg _) rfl) rfl ?_
          refine wpO.val rfl (oper_build (cs := [(.d (.str [112])), (.d (.str [])), (.d (.str [])), (.d .nils), (.d (.sl (([(Tree.mk [] [] [120] [] []), (Tree.mk [111, 117, 116, 108, 101, 116] [] [] [] []), (Tree.mk [] [] [121] [] [])]).map encTree) true))]) zo39 rfl (place_struct39) (fill1 rfl rfl rfl rfl (fill1 rfl rfl rfl rfl rfl))) rfl ?_
          refine wpO.less (Less.agg' (d := encTree (Tree.mk [112] [] [] [] [(Tree.mk [] [] [120] [] []), (Tree.mk [111, 117, 116, 108, 101, 116] [] [] [] []), (Tree.mk [] [] [121] [] [])])) (CellsC.eq rfl (CellsC.eq rfl (CellsC.eq rfl (CellsC.consW rfl (.nils false) rfl rfl (CellsC.consW rfl (.untight _ _) rfl rfl .nil))))) ((Tree.eq _).trans rfl)) ?_
          obtain ⟨z40, hzz40, h⟩ := bind_some h
          refine wpO.retM (ins := [.box b10 [v33, w32], nestA encdom_node dom_node.kids 7 5 v33 ws31 x30.l none, slkA w32 x30.freed]) (more := [.grow v35 ((x34).map (D.int .i64))]) (H29.sel [1, 2, 3, 0] (by decide) rfl) rfl (oper_callF rfl rfl) (patch_Put_ok E n _ _ _ hzz40 b10 v33 ws31 w32) (.cons (.refl _) (.cons (.refl _) .nil)) rfl ?_
          rintro _ S44 _ ⟨rfl, v41, ws42, w43, rfl⟩ H45
          replace H45 : Has pureSt S44 [.box b10 [v41, w43], nestA encdom_node dom_node.kids 7 5 v41 ws42 z40.2.l none, slkA w43 z40.2.freed, .grow v35 ((x34).map (D.int .i64))] := H45
          have H46 : Has pureSt S44 [.grow v35 ((x34).map (D.int .i64)), .box b10 [v41, w43], nestA encdom_node dom_node.kids 7 5 v41 ws42 z40.2.l none, slkA w43 z40.2.freed] := H45.sel [3, 0, 1, 2] (by decide) rfl
          refine wpO.val rfl (oper_assign rfl) rfl ?_
          refine wpO.nil ?_
          refine WpC.seq ?_
          refine WpC.seq ?_
          refine WpC.region E.obj rfl ?_
          refine wpO.val rfl (oper_move rfl) rfl ?_
          refine wpO.val rfl (oper_move rfl) rfl ?_
          refine wpO.val rfl (oper_move rfl) rfl ?_
          obtain ⟨z47, hzz47, h⟩ := bind_some h
          refine wpO.retM (ins := [.box b10 [v41, w43], nestA encdom_node dom_node.kids 7 5 v41 ws42 z40.2.l none, slkA w43 z40.2.freed]) (more := [.grow v35 ((x34).map (D.int .i64))]) (H46.sel [1, 2, 3, 0] (by decide) rfl) rfl (oper_callF rfl rfl) (outlet_Hang_ok E n _ _ _ _ hzz47 b10 v41 ws42 w43) (.cons (.refl _) (.cons (.refl _) (.cons (.refl _) .nil))) rfl ?_
          rintro _ S50 _ ⟨rfl, ws48, w49, rfl⟩ H51
          replace H51 : Has pureSt S50 [.box b10 [v41, w49], nestA encdom_node dom_node.kids 7 5 v41 ws48 z47.2.l none, slkA w49 z47.2.freed, .grow v35 ((x34).map (D.int .i64))] := H51
          have H52 : Has pureSt S50 [.grow v35 ((x34).map (D.int .i64)), .box b10 [v41, w49], nestA encdom_node dom_node.kids 7 5 v41 ws48 z47.2.l none, slkA w49 z47.2.freed] := H51.sel [3, 0, 1, 2] (by decide) rfl
          refine wpO.val rfl (oper_not rfl) rfl ?_
          refine wpO.nil ?_
          refine WpC.cond rfl (fun hb53 => ?_) (fun hb53 => ?_)
          ·
            replace h := if_t hb53 h
            refine WpC.seq ?_
            refine WpC.region E.obj rfl ?_
            refine wpO.val rfl (oper_assign rfl) rfl ?_
            refine wpO.nil ?_
            have hr := Option.some.inj h
            subst hr
            exact WpC.ret ⟨_, rfl, rfl, end1 (ArgsC.eq .nil)⟩
          ·
            replace h := if_f hb53 h
            refine WpC.skip ?_
            refine WpC.region E.obj rfl ?_
            refine wpO.val rfl (oper_move rfl) rfl ?_
            refine wpO.val rfl (oper_move rfl) rfl ?_
            refine wpO.val rfl (oper_buildSlice (vs := [(.d (.int .i64 z40.1))]) (ds := [(.int .i64 z40.1)]) rw31 el31 ag3 zo3 sz3 rfl (by decide) (.cons rfl rfl .nil) rfl (by intro d hd; simp only [List.mem_cons, List.not_mem_nil, or_false] at hd; rcases hd with rfl <;> rfl) rfl) rfl ?_
            obtain ⟨z54, hzz54, h⟩ := bind_some h
            refine wpO.append (xs := (x34).map (D.int .i64)) (ys := ([z40.1]).map (D.int .i64)) (zs := (z54).map (D.int .i64)) H52 rfl rfl rfl (i := 0) rfl rfl rw31 os31 el31 (app_bound hzz54) nb3 rfl (sizes_map (enc := (D.int .i64)) (fun _ => sz3.symm) _) (sizes_map (enc := (D.int .i64)) (fun _ => sz3.symm) _) zk3 rfl (app_eq hzz54) (fun v55 S56 H57 => ?_)
            refine wpO.val rfl (oper_move rfl) rfl ?_
            refine wpO.val rfl (oper_assign rfl) rfl ?_
            refine wpO.val rfl (oper_assign rfl) rfl ?_
            refine wpO.nil ?_
            refine WpC.region E.obj rfl ?_
            refine wpO.val rfl (oper_move rfl) rfl ?_
            refine wpO.val rfl (oper_bin rfl rfl binD_add) rfl ?_
            refine wpO.val rfl (oper_assign rfl) rfl ?_
            refine wpO.nil ?_
            exact ⟨⟨z47.2, v41, ws48, w49, z54, v55, z40.1, (IntKind.wrap .i64 (x37 + 1))⟩, _, _, S56, .refl _ _, .refl _, (WeakE.cons rfl (.refl _) (WeakE.cons rfl (.refl _) (WeakE.cons rfl (.refl _) (WeakE.cons rfl (.refl _) (WeakE.cons rfl (.refl _) (WeakE.cons rfl (.refl _) WeakE.nil)))))), H57.sel [0, 1, 2, 3] (by decide) rfl, h⟩
        ·
          replace h := if_f hb39 h
          refine WpC.exit ?_
          refine WpC.seq ?_
          refine WpC.region E.obj rfl ?_
          refine wpO.val rfl (oper_move rfl) rfl ?_
          refine wpO.val rfl (oper_move rfl) rfl ?_
          refine wpO.val rfl (oper_bin rfl rfl binD_sub) rfl ?_
          obtain ⟨z58, hzz58, h⟩ := bind_some h
          refine wpO.ret rfl (oper_callF rfl rfl) (porticobook_Within_ok E _ _ _ _ _ hzz58 _ _ (ArgsC.eq (ArgsC.eq (ArgsC.eq .nil)))) rfl ?_
          refine wpO.val rfl (oper_assign rfl) rfl ?_
          refine wpO.nil ?_
          refine WpC.seq ?_
          refine WpC.region E.obj rfl ?_
          refine wpO.makeMap (D.int .i64) D.bool H29 rfl kt77 rfl (fun b59 S60 H61 => ?_)
          refine wpO.val rfl (oper_assign rfl) rfl ?_
          refine wpO.nil ?_
          refine WpC.seq ?_
          refine WpC.seq ?_
          refine WpC.region E.obj rfl ?_
          refine wpO.val rfl (oper_move rfl) rfl ?_
          refine wpO.val rfl (oper_lenG H61 (i := 1) rfl rfl es31) rfl ?_
          refine wpO.val rfl (oper_move rfl) rfl ?_
          refine wpO.nil ?_
          refine WpC.block ?_
          refine WpL.start (B := pureSt) (α := (List (Int × Bool)) × Int) (fun k a => porticolaw20_OutletDeep_l72 n z15 x30 x34 z58 k a.1 a.2 = some r) (fun a => [(5, (.ptr b10 0 0)), (6, (.d (.int .i64 z15))), (7, v35), (11, (.d (.int .i64 z58))), (12, (.map b59)), (51, v35), (52, (.d (.int .i64 ((x34).length : Int)))), (53, (.d (.int .i64 a.2)))]) (fun a => [.map b59 (mD (D.int .i64) D.bool a.1), .grow v35 ((x34).map (D.int .i64)), .box b10 [v33, w32], nestA encdom_node dom_node.kids 7 5 v33 ws31 x30.l none, slkA w32 x30.freed]) ?_ ?_ n ⟨⟨[], 0⟩, _, _, S60, .refl _ _, .refl _, (WeakE.cons rfl (.refl _) (WeakE.cons rfl (.refl _) (WeakE.cons rfl (.refl _) (WeakE.cons rfl (.refl _) (WeakE.cons rfl (.refl _) (WeakE.cons rfl (.refl _) (WeakE.cons rfl (.refl _) (WeakE.cons rfl (.refl _) WeakE.nil)))))))), H61.sel [0, 1, 2, 3, 4] (by decide) rfl, h⟩
          · intro a h; simp [porticolaw20_OutletDeep_l72] at h
          ·
            intro k72 a S68 H69 h
            obtain ⟨x70, x71⟩ := a
            replace h : porticolaw20_OutletDeep_l72 n z15 x30 x34 z58 (k72 + 1) x70 x71 = some r := h
            replace H69 : Has pureSt S68 [.map b59 (mD (D.int .i64) D.bool x70), .grow v35 ((x34).map (D.int .i64)), .box b10 [v33, w32], nestA encdom_node dom_node.kids 7 5 v33 ws31 x30.l none, slkA w32 x30.freed] := H69
            unfold porticolaw20_OutletDeep_l72 at h
            refine WpC.seq ?_
            refine WpC.region E.obj rfl ?_
            refine wpO.val rfl (oper_bin rfl rfl binD_lss) rfl ?_
            refine wpO.nil ?_
            refine WpC.seq ?_
            refine WpC.cond rfl (fun hb73 => ?_) (fun hb73 => ?_)
            ·
              replace h := if_t hb73 h
              refine WpC.skip ?_
              refine WpC.seq ?_
              refine WpC.block ?_
              refine WpC.seq ?_
              refine WpC.region E.obj rfl ?_
              obtain ⟨z74, hzz74, h⟩ := bind_some h
              refine wpO.val rfl (oper_idx rfl rfl (idxAddr_grow (enc := (D.int .i64)) H69 (i := 1) rfl hzz74 el31 as3 (((fun _ => rfl) _).trans sz3.symm))) rfl ?_
              refine wpO.val rfl (oper_loadE rfl (partD_one ag3 rfl)) rfl ?_
              refine wpO.val rfl (oper_assign rfl) rfl ?_
              refine wpO.nil ?_
              refine WpC.seq ?_
              refine WpC.region E.obj rfl ?_
              refine wpO.val rfl (oper_move rfl) rfl ?_
              refine wpO.val rfl (oper_move rfl) rfl ?_
              obtain ⟨z75, hzz75, h⟩ := bind_some h
              refine wpO.retM (ins := [.box b10 [v33, w32], nestA encdom_node dom_node.kids 7 5 v33 ws31 x30.l none, slkA w32 x30.freed]) (more := [.map b59 (mD (D.int .i64) D.bool x70), .grow v35 ((x34).map (D.int .i64))]) (H69.sel [2, 3, 4, 0, 1] (by decide) rfl) rfl (oper_callF rfl rfl) (outlet_Slot_ok E n _ _ _ hzz75 b10 v33 ws31 w32) (.cons (.refl _) (.cons (.refl _) .nil)) rfl ?_
              rintro _ S76 _ ⟨rfl, rfl⟩ H77
              replace H77 : Has pureSt S76 [.box b10 [v33, w32], nestA encdom_node dom_node.kids 7 5 v33 ws31 x30.l none, slkA w32 x30.freed, .map b59 (mD (D.int .i64) D.bool x70), .grow v35 ((x34).map (D.int .i64))] := H77
              have H78 : Has pureSt S76 [.map b59 (mD (D.int .i64) D.bool x70), .grow v35 ((x34).map (D.int .i64)), .box b10 [v33, w32], nestA encdom_node dom_node.kids 7 5 v33 ws31 x30.l none, slkA w32 x30.freed] := H77.sel [3, 4, 0, 1, 2] (by decide) rfl
              refine wpO.val rfl (oper_assign rfl) rfl ?_
              refine wpO.nil ?_
              refine WpC.seq ?_
              refine WpC.seq ?_
              refine WpC.region E.obj rfl ?_
              refine wpO.val rfl (oper_move rfl) rfl ?_
              refine wpO.val rfl (oper_bin rfl rfl binD_eql) rfl ?_
              refine wpO.val rfl (oper_move rfl) rfl ?_
              refine wpO.groupV 4 66 (.d (.bool ((z75 == 0) || (mgetD x70 z75 false)))) ?_ ?_
              ·
                rcases Bool.eq_false_or_eq_true ((z75 == 0)) with hB79 | hB79
                ·
                  refine wpO.bool hB79 ?_
                  refine wpO.no rfl rfl ?_
                  refine wpO.no rfl rfl ?_
                  refine wpO.no rfl rfl ?_
                  refine wpO.val rfl (oper_pick (b := true) rfl rfl) rfl ?_
                  exact wpO.nil ⟨_, rfl, (WeakE.put (WeakE.push rfl (WeakE.push rfl (WeakE.push rfl (WeakE.put (.refl _) (Less.eq (by rw [hB79])))))) (Less.eq (by rw [hB79]; rw [Bool.true_or])))⟩
                ·
                  refine wpO.bool hB79 ?_
                  refine wpO.val rfl (oper_move rfl) rfl ?_
                  refine wpO.val rfl (oper_move rfl) rfl ?_
                  refine wpO.val rfl (oper_lookupM (ek := (D.int .i64)) (ev := D.bool) (k := z75) (z := false) H78 (i := 0) rfl rfl rfl kt77 (keyInt uk3) zo4) rfl ?_
                  refine wpO.val rfl (oper_pick (b := false) rfl rfl) rfl ?_
                  exact wpO.nil ⟨_, rfl, (WeakE.put (WeakE.push rfl (WeakE.push rfl (WeakE.push rfl (WeakE.put (.refl _) (Less.eq (by rw [hB79])))))) (Less.eq (by rw [hB79]; rw [Bool.false_or])))⟩
              ·
                refine wpO.val rfl (oper_move rfl) rfl ?_
                rcases Bool.eq_false_or_eq_true (((z75 == 0) || (mgetD x70 z75 false))) with hB80 | hB80
                ·
                  replace h := if_t hB80 h
                  refine wpO.bool hB80 ?_
                  refine wpO.no rfl rfl ?_
                  refine wpO.no rfl rfl ?_
                  refine wpO.no rfl rfl ?_
                  refine wpO.no rfl rfl ?_
                  refine wpO.no rfl rfl ?_
                  refine wpO.val rfl (oper_pick (b := true) rfl rfl) rfl ?_
                  refine wpO.nil ?_
                  refine WpC.cond rfl (fun hb => ?_) (fun hb => ?_)
                  ·
                    refine WpC.seq ?_
                    refine WpC.region E.obj rfl ?_
                    refine wpO.val rfl (oper_assign rfl) rfl ?_
                    refine wpO.nil ?_
                    have hr := Option.some.inj h
                    subst hr
                    exact WpC.ret ⟨_, rfl, rfl, end1 (ArgsC.eq .nil)⟩
                  ·
                    cases hb
                ·
                  replace h := if_f hB80 h
                  refine wpO.bool hB80 ?_
                  refine wpO.val rfl (oper_move rfl) rfl ?_
                  refine wpO.val rfl (oper_move rfl) rfl ?_
                  obtain ⟨z81, hzz81, h⟩ := bind_some h
                  refine wpO.retM (ins := [.box b10 [v33, w32], nestA encdom_node dom_node.kids 7 5 v33 ws31 x30.l none, slkA w32 x30.freed]) (more := [.map b59 (mD (D.int .i64) D.bool x70), .grow v35 ((x34).map (D.int .i64))]) (H78.sel [2, 3, 4, 0, 1] (by decide) rfl) rfl (oper_callF rfl rfl) (dom_Dom_Parent_ok E n _ _ _ hzz81 b10 v33 ws31 w32) (.cons (.refl _) (.cons (.refl _) .nil)) rfl ?_
                  rintro _ S82 _ ⟨rfl, rfl⟩ H83
                  replace H83 : Has pureSt S82 [.box b10 [v33, w32], nestA encdom_node dom_node.kids 7 5 v33 ws31 x30.l none, slkA w32 x30.freed, .map b59 (mD (D.int .i64) D.bool x70), .grow v35 ((x34).map (D.int .i64))] := H83
                  have H84 : Has pureSt S82 [.map b59 (mD (D.int .i64) D.bool x70), .grow v35 ((x34).map (D.int .i64)), .box b10 [v33, w32], nestA encdom_node dom_node.kids 7 5 v33 ws31 x30.l none, slkA w32 x30.freed] := H83.sel [3, 4, 0, 1, 2] (by decide) rfl
                  refine wpO.val rfl (oper_move rfl) rfl ?_
                  refine wpO.val rfl (oper_bin rfl rfl binD_neq) rfl ?_
                  refine wpO.val rfl (oper_pick (b := false) rfl rfl) rfl ?_
                  refine wpO.nil ?_
                  refine WpC.cond rfl (fun hb85 => ?_) (fun hb85 => ?_)
                  ·
                    replace h := if_t hb85 h
                    refine WpC.seq ?_
                    refine WpC.region E.obj rfl ?_
                    refine wpO.val rfl (oper_assign rfl) rfl ?_
                    refine wpO.nil ?_
                    have hr := Option.some.inj h
                    subst hr
                    exact WpC.ret ⟨_, rfl, rfl, end1 (ArgsC.eq .nil)⟩
                  ·
                    replace h := if_f hb85 h
                    refine WpC.skip ?_
                    refine WpC.region E.obj rfl ?_
                    refine wpO.val rfl (oper_move rfl) rfl ?_
                    refine wpO.val rfl (oper_move rfl) rfl ?_
                    refine wpO.mapUpdate (ek := (D.int .i64)) (ev := D.bool) (k := z75) (v := true) H84 rfl (i := 0) rfl rfl rfl rfl kt77 (keyInt uk3) (fun S86 H87 => ?_)
                    refine wpO.nil ?_
                    refine WpC.region E.obj rfl ?_
                    refine wpO.val rfl (oper_bin rfl rfl binD_add) rfl ?_
                    refine wpO.val rfl (oper_move rfl) rfl ?_
                    refine wpO.nil ?_
                    exact ⟨⟨(mput x70 z75 true), (IntKind.wrap .i64 (x71 + 1))⟩, _, _, S86, .refl _ _, .refl _, (WeakE.cons rfl (.refl _) (WeakE.cons rfl (.refl _) (WeakE.cons rfl (.refl _) (WeakE.cons rfl (.refl _) (WeakE.cons rfl (.refl _) (WeakE.cons rfl (.refl _) (WeakE.cons rfl (.refl _) (WeakE.cons rfl (.refl _) WeakE.nil)))))))), H87.sel [0, 1, 2, 3, 4] (by decide) rfl, h⟩
            ·
              replace h := if_f hb73 h
              refine WpC.exit ?_
              refine WpC.seq ?_
              refine WpC.seq ?_
              refine WpC.region E.obj rfl ?_
              refine wpO.val rfl (oper_move rfl) rfl ?_
              refine wpO.val rfl (oper_move rfl) rfl ?_
              refine wpO.val rfl (oper_move rfl) rfl ?_
              obtain ⟨z88, hzz88, h⟩ := bind_some h
              refine wpO.val rfl (oper_idx rfl rfl (idxAddr_grow (enc := (D.int .i64)) H69 (i := 1) rfl hzz88 el31 as3 (((fun _ => rfl) _).trans sz3.symm))) rfl ?_
              refine wpO.val rfl (oper_loadE rfl (partD_one ag3 rfl)) rfl ?_
              obtain ⟨z89, hzz89, h⟩ := bind_some h
              refine wpO.retM (ins := [.box b10 [v33, w32], nestA encdom_node dom_node.kids 7 5 v33 ws31 x30.l none, slkA w32 x30.freed]) (more := [.map b59 (mD (D.int .i64) D.bool x70), .grow v35 ((x34).map (D.int .i64))]) (H69.sel [2, 3, 4, 0, 1] (by decide) rfl) rfl (oper_callF rfl rfl) (dom_Dom_Detach_ok E n _ _ _ hzz89 b10 v33 ws31 w32) (.cons (.refl _) (.cons (.refl _) .nil)) rfl ?_
              rintro _ S92 _ ⟨rfl, ws90, w91, rfl⟩ H93
              replace H93 : Has pureSt S92 [.box b10 [v33, w91], nestA encdom_node dom_node.kids 7 5 v33 ws90 z89.2.l none, slkA w91 z89.2.freed, .map b59 (mD (D.int .i64) D.bool x70), .grow v35 ((x34).map (D.int .i64))] := H93
              have H94 : Has pureSt S92 [.map b59 (mD (D.int .i64) D.bool x70), .grow v35 ((x34).map (D.int .i64)), .box b10 [v33, w91], nestA encdom_node dom_node.kids 7 5 v33 ws90 z89.2.l none, slkA w91 z89.2.freed] := H93.sel [3, 4, 0, 1, 2] (by decide) rfl
              refine wpO.val rfl (oper_not rfl) rfl ?_
              refine wpO.val rfl (oper_move rfl) rfl ?_
              rcases Bool.eq_false_or_eq_true ((!z89.1)) with hB95 | hB95
              ·
                replace h := if_t hB95 h
                refine wpO.bool hB95 ?_
                refine wpO.no rfl rfl ?_
                refine wpO.no rfl rfl ?_
                refine wpO.no rfl rfl ?_
                refine wpO.no rfl rfl ?_
                refine wpO.val rfl (oper_pick (b := true) rfl rfl) rfl ?_
                refine wpO.val rfl (oper_move rfl) rfl ?_
                refine wpO.no rfl rfl ?_
                refine wpO.no rfl rfl ?_
                refine wpO.no rfl rfl ?_
                refine wpO.no rfl rfl ?_
                refine wpO.no rfl rfl ?_
                refine wpO.no rfl rfl ?_
                refine wpO.val rfl (oper_pick (b := true) rfl rfl) rfl ?_
                refine wpO.nil ?_
                refine WpC.cond rfl (fun hb => ?_) (fun hb => ?_)
                ·
                  refine WpC.seq ?_
                  refine WpC.region E.obj rfl ?_
                  refine wpO.val rfl (oper_assign rfl) rfl ?_
                  refine wpO.nil ?_
                  have hr := Option.some.inj h
                  subst hr
                  exact WpC.ret ⟨_, rfl, rfl, end1 (ArgsC.eq .nil)⟩
                ·
                  cases hb
              ·
                replace h := if_f hB95 h
                refine wpO.bool hB95 ?_
                refine wpO.val rfl (oper_move rfl) rfl ?_
                obtain ⟨z96, hzz96, h⟩ := bind_some h
                refine wpO.retM (ins := [.box b10 [v33, w91], nestA encdom_node dom_node.kids 7 5 v33 ws90 z89.2.l none, slkA w91 z89.2.freed]) (more := [.map b59 (mD (D.int .i64) D.bool x70), .grow v35 ((x34).map (D.int .i64))]) (H94.sel [2, 3, 4, 0, 1] (by decide) rfl) rfl (oper_callF rfl rfl) (dom_Dom_Loose_ok E n _ _ hzz96 b10 v33 ws90 w91) (.cons (.refl _) .nil) rfl ?_
                rintro _ S97 _ ⟨rfl, rfl⟩ H98
                replace H98 : Has pureSt S97 [.box b10 [v33, w91], nestA encdom_node dom_node.kids 7 5 v33 ws90 z89.2.l none, slkA w91 z89.2.freed, .map b59 (mD (D.int .i64) D.bool x70), .grow v35 ((x34).map (D.int .i64))] := H98
                have H99 : Has pureSt S97 [.map b59 (mD (D.int .i64) D.bool x70), .grow v35 ((x34).map (D.int .i64)), .box b10 [v33, w91], nestA encdom_node dom_node.kids 7 5 v33 ws90 z89.2.l none, slkA w91 z89.2.freed] := H98.sel [3, 4, 0, 1, 2] (by decide) rfl
                refine wpO.val rfl (oper_lenL rfl es31) rfl ?_
                refine wpO.val rfl (oper_bin rfl rfl binD_neq) rfl ?_
                refine wpO.val rfl (oper_pick (b := false) rfl rfl) rfl ?_
                refine wpO.val rfl (oper_move rfl) rfl ?_
                rcases Bool.eq_false_or_eq_true ((((z96).length : Int) != 1)) with hB100 | hB100
                ·
                  replace h := if_t hB100 h
                  refine wpO.bool hB100 ?_
                  refine wpO.no rfl rfl ?_
                  refine wpO.no rfl rfl ?_
                  refine wpO.no rfl rfl ?_
                  refine wpO.no rfl rfl ?_
                  refine wpO.no rfl rfl ?_
                  refine wpO.no rfl rfl ?_
                  refine wpO.val rfl (oper_pick (b := true) rfl rfl) rfl ?_
                  refine wpO.nil ?_
                  refine WpC.cond rfl (fun hb => ?_) (fun hb => ?_)
                  ·
                    refine WpC.seq ?_
                    refine WpC.region E.obj rfl ?_
                    refine wpO.val rfl (oper_assign rfl) rfl ?_
                    refine wpO.nil ?_
                    have hr := Option.some.inj h
                    subst hr
                    exact WpC.ret ⟨_, rfl, rfl, end1 (ArgsC.eq .nil)⟩
                  ·
                    cases hb
                ·
                  replace h := if_f hB100 h
                  refine wpO.bool hB100 ?_
                  refine wpO.val rfl (oper_move rfl) rfl ?_
                  obtain ⟨z101, hzz101, h⟩ := bind_some h
                  refine wpO.retM (ins := [.box b10 [v33, w91], nestA encdom_node dom_node.kids 7 5 v33 ws90 z89.2.l none, slkA w91 z89.2.freed]) (more := [.map b59 (mD (D.int .i64) D.bool x70), .grow v35 ((x34).map (D.int .i64))]) (H99.sel [2, 3, 4, 0, 1] (by decide) rfl) rfl (oper_callF rfl rfl) (dom_Dom_Count_ok E n _ _ hzz101 b10 v33 ws90 w91) (.cons (.refl _) .nil) rfl ?_
                  rintro _ S102 _ ⟨rfl, rfl⟩ H103
                  replace H103 : Has pureSt S102 [.box b10 [v33, w91], nestA encdom_node dom_node.kids 7 5 v33 ws90 z89.2.l none, slkA w91 z89.2.freed, .map b59 (mD (D.int .i64) D.bool x70), .grow v35 ((x34).map (D.int .i64))] := H103
                  have H104 : Has pureSt S102 [.map b59 (mD (D.int .i64) D.bool x70), .grow v35 ((x34).map (D.int .i64)), .box b10 [v33, w91], nestA encdom_node dom_node.kids 7 5 v33 ws90 z89.2.l none, slkA w91 z89.2.freed] := H103.sel [3, 4, 0, 1, 2] (by decide) rfl
                  refine wpO.val rfl (oper_move rfl) rfl ?_
                  refine wpO.val rfl (oper_bin rfl rfl binD_mul) rfl ?_
                  refine wpO.val rfl (oper_bin rfl rfl binD_add) rfl ?_
                  refine wpO.val rfl (oper_bin rfl rfl binD_neq) rfl ?_
                  refine wpO.val rfl (oper_pick (b := false) rfl rfl) rfl ?_
                  refine wpO.nil ?_
                  refine WpC.cond rfl (fun hb105 => ?_) (fun hb105 => ?_)
                  ·
                    replace h := if_t hb105 h
                    refine WpC.seq ?_
                    refine WpC.region E.obj rfl ?_
                    refine wpO.val rfl (oper_assign rfl) rfl ?_
                    refine wpO.nil ?_
                    have hr := Option.some.inj h
                    subst hr
                    exact WpC.ret ⟨_, rfl, rfl, end1 (ArgsC.eq .nil)⟩
                  ·
                    replace h := if_f hb105 h
                    refine WpC.skip ?_
                    refine WpC.seq ?_
                    refine WpC.seq ?_
                    refine WpC.region E.obj rfl ?_
                    refine wpO.val rfl (oper_move rfl) rfl ?_
                    refine wpO.val rfl (oper_lenG H104 (i := 1) rfl rfl es31) rfl ?_
                    refine wpO.val rfl (oper_move rfl) rfl ?_
                    refine wpO.nil ?_
                    refine WpC.block ?_
                    refine WpL.start (B := pureSt) (α := Int) (fun k a => porticolaw20_OutletDeep_l114 n z15 x34 z58 z89 k a = some r) (fun a => [(5, (.ptr b10 0 0)), (6, (.d (.int .i64 z15))), (7, v35), (11, (.d (.int .i64 z58))), (99, (.d (.int .i64 ((x34).length : Int)))), (100, (.d (.int .i64 a)))]) (fun a => [.grow v35 ((x34).map (D.int .i64)), .box b10 [v33, w91], nestA encdom_node dom_node.kids 7 5 v33 ws90 z89.2.l none, slkA w91 z89.2.freed]) ?_ ?_ n ⟨0, _, _, S102, .refl _ _, .refl _, (WeakE.cons rfl (.refl _) (WeakE.cons rfl (.refl _) (WeakE.cons rfl (.refl _) (WeakE.cons rfl (.refl _) (WeakE.cons rfl (.refl _) (WeakE.cons rfl (.refl _) WeakE.nil)))))), H104.sel [1, 2, 3, 4] (by decide) rfl, h⟩
                    · intro a h; simp [porticolaw20_OutletDeep_l114] at h
                    ·
                      intro k114 x113 S111 H112 h
                      replace h : porticolaw20_OutletDeep_l114 n z15 x34 z58 z89 (k114 + 1) x113 = some r := h
                      replace H112 : Has pureSt S111 [.grow v35 ((x34).map (D.int .i64)), .box b10 [v33, w91], nestA encdom_node dom_node.kids 7 5 v33 ws90 z89.2.l none, slkA w91 z89.2.freed] := H112
                      unfold porticolaw20_OutletDeep_l114 at h
                      refine WpC.seq ?_
                      refine WpC.region E.obj rfl ?_
                      refine wpO.val rfl (oper_bin rfl rfl binD_lss) rfl ?_
                      refine wpO.nil ?_
                      refine WpC.seq ?_
                      refine WpC.cond rfl (fun hb115 => ?_) (fun hb115 => ?_)
                      ·
                        replace h := if_t hb115 h
                        refine WpC.skip ?_
                        refine WpC.seq ?_
                        refine WpC.block ?_
                        refine WpC.seq ?_
                        refine WpC.region E.obj rfl ?_
                        refine wpO.val rfl (oper_move rfl) rfl ?_
                        refine wpO.val rfl (oper_assign rfl) rfl ?_
                        refine wpO.nil ?_
                        refine WpC.seq ?_
                        refine WpC.region E.obj rfl ?_
                        refine wpO.val rfl (oper_assign rfl) rfl ?_
                        refine wpO.nil ?_
                        refine WpC.join (B := pureSt) (α := Int) (fun a => porticolaw20_OutletDeep_j119 n x34 z89 x113 (porticolaw20_OutletDeep_l114 n z15 x34 z58 z89 k114) a = some r) (fun a => [(5, (.ptr b10 0 0)), (6, (.d (.int .i64 z15))), (7, v35), (11, (.d (.int .i64 z58))), (16, (.d (.int .i64 x113))), (17, (.d (.int .i64 a))), (99, (.d (.int .i64 ((x34).length : Int)))), (100, (.d (.int .i64 x113)))]) (fun a => [.grow v35 ((x34).map (D.int .i64)), .box b10 [v33, w91], nestA encdom_node dom_node.kids 7 5 v33 ws90 z89.2.l none, slkA w91 z89.2.freed]) ?_ ?_
                        ·
                          intro x118 S116 H117 h
                          replace h : porticolaw20_OutletDeep_j119 n x34 z89 x113 (porticolaw20_OutletDeep_l114 n z15 x34 z58 z89 k114) x118 = some r := h
                          replace H117 : Has pureSt S116 [.grow v35 ((x34).map (D.int .i64)), .box b10 [v33, w91], nestA encdom_node dom_node.kids 7 5 v33 ws90 z89.2.l none, slkA w91 z89.2.freed] := H117
                          unfold porticolaw20_OutletDeep_j119 at h
                          refine WpC.seq ?_
                          refine WpC.region E.obj rfl ?_
                          refine wpO.val rfl (oper_move rfl) rfl ?_
                          refine wpO.val rfl (oper_move rfl) rfl ?_
                          refine wpO.val rfl (oper_move rfl) rfl ?_
                          obtain ⟨z120, hzz120, h⟩ := bind_some h
                          refine wpO.val rfl (oper_idx rfl rfl (idxAddr_grow (enc := (D.int .i64)) H117 (i := 0) rfl hzz120 el31 as3 (((fun _ => rfl) _).trans sz3.symm))) rfl ?_
                          refine wpO.val rfl (oper_loadE rfl (partD_one ag3 rfl)) rfl ?_
                          obtain ⟨z121, hzz121, h⟩ := bind_some h
                          refine wpO.retM (ins := [.box b10 [v33, w91], nestA encdom_node dom_node.kids 7 5 v33 ws90 z89.2.l none, slkA w91 z89.2.freed]) (more := [.grow v35 ((x34).map (D.int .i64))]) (H117.sel [1, 2, 3, 0] (by decide) rfl) rfl (oper_callF rfl rfl) (outlet_Hung_ok E n _ _ _ hzz121 b10 v33 ws90 w91) (.cons (.refl _) (.cons (.refl _) .nil)) rfl ?_
                          rintro _ S122 _ ⟨rfl, rfl⟩ H123
                          replace H123 : Has pureSt S122 [.box b10 [v33, w91], nestA encdom_node dom_node.kids 7 5 v33 ws90 z89.2.l none, slkA w91 z89.2.freed, .grow v35 ((x34).map (D.int .i64))] := H123
                          have H124 : Has pureSt S122 [.grow v35 ((x34).map (D.int .i64)), .box b10 [v33, w91], nestA encdom_node dom_node.kids 7 5 v33 ws90 z89.2.l none, slkA w91 z89.2.freed] := H123.sel [3, 0, 1, 2] (by decide) rfl
                          refine wpO.val rfl (oper_move rfl) rfl ?_
                          refine wpO.val rfl (oper_bin rfl rfl binD_neq) rfl ?_
                          refine wpO.nil ?_
                          refine WpC.cond rfl (fun hb125 => ?_) (fun hb125 => ?_)
                          ·
                            replace h := if_t hb125 h
                            refine WpC.seq ?_
                            refine WpC.region E.obj rfl ?_
                            refine wpO.val rfl (oper_assign rfl) rfl ?_
                            refine wpO.nil ?_
                            have hr := Option.some.inj h
                            subst hr
                            exact WpC.ret ⟨_, rfl, rfl, end1 (ArgsC.eq .nil)⟩
                          ·
                            replace h := if_f hb125 h
                            refine WpC.skip ?_
                            refine WpC.region E.obj rfl ?_
                            refine wpO.val rfl (oper_bin rfl rfl binD_add) rfl ?_
                            refine wpO.val rfl (oper_move rfl) rfl ?_
                            refine wpO.nil ?_
                            exact ⟨(IntKind.wrap .i64 (x113 + 1)), _, _, S122, .refl _ _, .refl _, (WeakE.cons rfl (.refl _) (WeakE.cons rfl (.refl _) (WeakE.cons rfl (.refl _) (WeakE.cons rfl (.refl _) (WeakE.cons rfl (.refl _) (WeakE.cons rfl (.refl _) WeakE.nil)))))), H124.sel [0, 1, 2, 3] (by decide) rfl, h⟩
                        ·
                          refine WpC.seq ?_
                          refine WpC.region E.obj rfl ?_
                          refine wpO.val rfl (oper_move rfl) rfl ?_
                          refine wpO.val rfl (oper_bin rfl rfl binD_add) rfl ?_
                          refine wpO.val rfl (oper_move rfl) rfl ?_
                          refine wpO.val rfl (oper_bin rfl rfl binD_lss) rfl ?_
                          refine wpO.val rfl (oper_move rfl) rfl ?_
                          refine wpO.groupV 5 112 (.d (.bool ((decide ((IntKind.wrap .i64 (x113 + 1)) < z15)) && ((IntKind.wrap .i64 (x113 + 1)) != z58)))) ?_ ?_
                          ·
                            rcases Bool.eq_false_or_eq_true ((decide ((IntKind.wrap .i64 (x113 + 1)) < z15))) with hB126 | hB126
                            ·
                              refine wpO.bool hB126 ?_
                              refine wpO.val rfl (oper_move rfl) rfl ?_
                              refine wpO.val rfl (oper_bin rfl rfl binD_add) rfl ?_
                              refine wpO.val rfl (oper_move rfl) rfl ?_
                              refine wpO.val rfl (oper_bin rfl rfl binD_neq) rfl ?_
                              refine wpO.val rfl (oper_pick (b := true) rfl rfl) rfl ?_
                              exact wpO.nil ⟨_, rfl, (WeakE.put (WeakE.push rfl (WeakE.push rfl (WeakE.push rfl (WeakE.push rfl (WeakE.put (.refl _) (Less.eq (by rw [hB126]))))))) (Less.eq (by rw [hB126]; rw [Bool.true_and])))⟩
                            ·
                              refine wpO.bool hB126 ?_
                              refine wpO.no rfl rfl ?_
                              refine wpO.no rfl rfl ?_
                              refine wpO.no rfl rfl ?_
                              refine wpO.no rfl rfl ?_
                              refine wpO.val rfl (oper_pick (b := false) rfl rfl) rfl ?_
                              exact wpO.nil ⟨_, rfl, (WeakE.put (WeakE.push rfl (WeakE.push rfl (WeakE.push rfl (WeakE.push rfl (WeakE.put (.refl _) (Less.eq (by rw [hB126]))))))) (Less.eq (by rw [hB126]; rw [Bool.false_and])))⟩
                          ·
                            refine wpO.nil ?_
                            refine WpC.cond rfl (fun hb127 => ?_) (fun hb127 => ?_)
                            ·
                              replace h := if_t hb127 h
                              refine WpC.region E.obj rfl ?_
                              refine wpO.val rfl (oper_move rfl) rfl ?_
                              refine wpO.val rfl (oper_move rfl) rfl ?_
                              refine wpO.val rfl (oper_bin rfl rfl binD_add) rfl ?_
                              obtain ⟨z128, hzz128, h⟩ := bind_some h
                              refine wpO.val rfl (oper_idx rfl rfl (idxAddr_grow (enc := (D.int .i64)) H112 (i := 0) rfl hzz128 el31 as3 (((fun _ => rfl) _).trans sz3.symm))) rfl ?_
                              refine wpO.val rfl (oper_loadE rfl (partD_one ag3 rfl)) rfl ?_
                              refine wpO.val rfl (oper_assign rfl) rfl ?_
                              refine wpO.nil ?_
                              exact ⟨z128, _, _, S111, .refl _ _, .refl _, (WeakE.cons rfl (.refl _) (WeakE.cons rfl (.refl _) (WeakE.cons rfl (.refl _) (WeakE.cons rfl (.refl _) (WeakE.cons rfl (.refl _) (WeakE.cons rfl (.refl _) (WeakE.cons rfl (.refl _) (WeakE.cons rfl (.refl _) WeakE.nil)))))))), H112.sel [0, 1, 2, 3] (by decide) rfl, h⟩
                            ·
                              replace h := if_f hb127 h
                              refine WpC.skip ?_
                              exact ⟨0, _, _, S111, .refl _ _, .refl _, (WeakE.cons rfl (.refl _) (WeakE.cons rfl (.refl _) (WeakE.cons rfl (.refl _) (WeakE.cons rfl (.refl _) (WeakE.cons rfl (.refl _) (WeakE.cons rfl (.refl _) (WeakE.cons rfl (.refl _) (WeakE.cons rfl (.refl _) WeakE.nil)))))))), H112.sel [0, 1, 2, 3] (by decide) rfl, h⟩
                      ·
                        replace h := if_f hb115 h
                        refine WpC.exit ?_
                        refine WpC.seq ?_
                        refine WpC.region E.obj rfl ?_
                        refine wpO.val rfl (oper_assign rfl) rfl ?_
                        refine wpO.nil ?_
                        refine WpC.join (B := pureSt) (α := Int) (fun a => porticolaw20_OutletDeep_j132 n x34 z58 z89 a = some r) (fun a => [(5, (.ptr b10 0 0)), (7, v35), (11, (.d (.int .i64 z58))), (18, (.d (.int .i64 a)))]) (fun a => [.grow v35 ((x34).map (D.int .i64)), .box b10 [v33, w91], nestA encdom_node dom_node.kids 7 5 v33 ws90 z89.2.l none, slkA w91 z89.2.freed]) ?_ ?_
                        ·
                          intro x131 S129 H130 h
                          replace h : porticolaw20_OutletDeep_j132 n x34 z58 z89 x131 = some r := h
                          replace H130 : Has pureSt S129 [.grow v35 ((x34).map (D.int .i64)), .box b10 [v33, w91], nestA encdom_node dom_node.kids 7 5 v33 ws90 z89.2.l none, slkA w91 z89.2.freed] := H130
                          unfold porticolaw20_OutletDeep_j132 at h
                          refine WpC.join (B := pureSt) (α := dom_Dom × (List (List AV)) × AV × Bool) (fun a => porticolaw20_OutletDeep_j139 a.1 a.2.2.2 = some r) (fun a => [(4, (.d (.bool a.2.2.2)))]) (fun a => []) ?_ ?_
                          ·
                            intro a S133 H134 h
                            obtain ⟨x135, ws136, w137, x138⟩ := a
                            replace h : porticolaw20_OutletDeep_j139 x135 x138 = some r := h
                            replace H134 : Has pureSt S133 [] := H134
                            unfold porticolaw20_OutletDeep_j139 at h
                            have hr := Option.some.inj h
                            subst hr
                            exact WpC.ret ⟨_, rfl, rfl, end1 (ArgsC.eq .nil)⟩
                          ·
                            obtain ⟨z140, hzz140, h⟩ := bind_some h
                            obtain ⟨z141, hzz141, h⟩ := bind_some h
                            rcases Bool.eq_false_or_eq_true (z141.1) with hb147 | hb147
                            ·
                              replace h := if_t hb147 h
                              obtain ⟨z148, hzz148, h⟩ := bind_some h
                              rcases Bool.eq_false_or_eq_true ((((z148).length : Int) == 0)) with hb152 | hb152
                              ·
                                replace h := if_t hb152 h
                                obtain ⟨z153, hzz153, h⟩ := bind_some h
                                rcases Bool.eq_false_or_eq_true ((z153 == z140)) with hb157 | hb157
                                ·
                                  replace h := if_t hb157 h
                                  obtain ⟨z158, hzz158, h⟩ := bind_some h
                                  refine WpC.drawP E.obj hmix [[(5, none)], [(18, none)], [(7, none)], [(11, none)], [(136, some 2), (137, some 3)], [(138, some 4)], [(134, some 0), (135, some 1), (139, some 5)], [(140, some 6)], [(5, none), (141, some 7)], [(142, some 8), (141, some 7)], [(143, some 9), (141, some 7)], [(144, some 10), (141, some 7)], [(141, some 7), (145, some 11)], [(146, some 12)], [(5, none), (147, some 13)], [(18, none), (147, some 13)], [(148, some 14), (149, some 15), (147, some 13)], [(7, none), (147, some 13)], [(11, none), (147, some 13)], [(151, some 17), (152, some 18), (147, some 13)], [(153, some 19), (147, some 13)], [(150, some 16), (154, some 20), (147, some 13)], [(147, some 13), (155, some 21)], [(156, some 22)], [(157, some 23)], [(157, some 23), (158, some 24)], [(159, some 25)]] [(4, some 26)] (by kernel_rfl) [6, 9, 16] (by decide) [some (.ptr b10 0 0), some (.d (.int .i64 x131)), some v35, some (.d (.int .i64 z58)), some (.eptr (.int .i64 z140) 0), some (.d (.int .i64 z140)), none, none, none, none, none, none, none, none, none, none, none, none, none, none, none, none, none, none, none, none, none] ?_
                                  refine ⟨[0, 1, 2, 3, 4, 5], by kernel_rfl, ?_, _, _, rfl, rfl, .step ?_⟩
                                  ·
                                    refine .cons rfl rfl rfl (.step ?_) ?_
                                    ·
                                      refine wpO.val rfl (oper_move rfl) rfl ?_
                                      exact wpO.nil ⟨_, _, rfl, fun _ ht => by cases ht; exact ⟨rfl, .refl _⟩⟩
                                    refine .cons rfl rfl rfl (.step ?_) ?_
                                    ·
                                      refine wpO.val rfl (oper_move rfl) rfl ?_
                                      exact wpO.nil ⟨_, _, rfl, fun _ ht => by cases ht; exact ⟨rfl, .refl _⟩⟩
                                    refine .cons rfl rfl rfl (.step ?_) ?_
                                    ·
                                      refine wpO.val rfl (oper_move rfl) rfl ?_
                                      exact wpO.nil ⟨_, _, rfl, fun _ ht => by cases ht; exact ⟨rfl, .refl _⟩⟩
                                    refine .cons rfl rfl rfl (.step ?_) ?_
                                    ·
                                      refine wpO.val rfl (oper_move rfl) rfl ?_
                                      exact wpO.nil ⟨_, _, rfl, fun _ ht => by cases ht; exact ⟨rfl, .refl _⟩⟩
                                    refine .cons rfl rfl rfl (.step ?_) ?_
                                    ·
                                      refine wpO.val rfl (oper_idx rfl rfl (idxAddr_grow (enc := (D.int .i64)) H130 (i := 0) rfl hzz140 el31 as3 (((fun _ => rfl) _).trans sz3.symm))) rfl ?_
                                      exact wpO.nil ⟨_, _, rfl, fun _ ht => by cases ht; exact ⟨rfl, .refl _⟩⟩
                                    refine .cons rfl rfl rfl (.step ?_) ?_
                                    ·
                                      refine wpO.val rfl (oper_loadE rfl (partD_one ag3 rfl)) rfl ?_
                                      exact wpO.nil ⟨_, _, rfl, fun _ ht => by cases ht; exact ⟨rfl, .refl _⟩⟩
                                    exact .nil
                                  refine wpO.retM (ins := [.box b10 [v33, w91], nestA encdom_node dom_node.kids 7 5 v33 ws90 z89.2.l none, slkA w91 z89.2.freed]) (more := [.grow v35 ((x34).map (D.int .i64))]) (H130.sel [1, 2, 3, 0] (by decide) rfl) rfl (oper_callF rfl rfl) (outlet_Hang_ok E n _ _ _ _ hzz141 b10 v33 ws90 w91) (.cons (.refl _) (.cons (.refl _) (.cons (.refl _) .nil))) rfl ?_
                                  rintro _ S161 _ ⟨rfl, ws159, w160, rfl⟩ H162
                                  replace H162 : Has pureSt S161 [.box b10 [v33, w160], nestA encdom_node dom_node.kids 7 5 v33 ws159 z141.2.l none, slkA w160 z141.2.freed, .grow v35 ((x34).map (D.int .i64))] := H162
                                  have H163 : Has pureSt S161 [.grow v35 ((x34).map (D.int .i64)), .box b10 [v33, w160], nestA encdom_node dom_node.kids 7 5 v33 ws159 z141.2.l none, slkA w160 z141.2.freed] := H162.sel [3, 0, 1, 2] (by decide) rfl
                                  refine wpO.nil ⟨_, _, _, rfl, (fun _ ht => by cases ht; rfl), [some (.ptr b10 0 0), some (.d (.int .i64 x131)), some v35, some (.d (.int .i64 z58)), some (.eptr (.int .i64 z140) 0), some (.d (.int .i64 z140)), some (.d (.bool z141.1)), some (.d (.bool true)), some (.ptr b10 0 0), none, none, none, none, none, none, none, none, none, none, none, none, none, none, none, none, none, none], (.old (.refl _) (.old (.refl _) (.old (.refl _) (.old (.refl _) (.old (.refl _) (.old (.refl _) (.new (.new (.new (.new (.new (.new (.new (.new (.new (.new (.new (.new (.new (.new (.new (.new (.new (.new (.new (.new (.new .nil))))))))))))))))))))))))))), (fun _ ht => by cases ht; exact ⟨_, rfl, .refl _⟩), ?_⟩
                                  refine ⟨[7, 8], by kernel_rfl, ?_, _, _, rfl, rfl, .step ?_⟩
                                  ·
                                    refine .cons rfl rfl rfl (.step ?_) ?_
                                    ·
                                      refine wpO.val rfl (oper_move rfl) rfl ?_
                                      exact wpO.nil ⟨_, _, rfl, fun _ ht => by cases ht; exact ⟨rfl, (.eq (by rw [hb147]))⟩⟩
                                    refine .cons rfl rfl rfl (.step ?_) ?_
                                    ·
                                      refine wpO.val rfl (oper_move rfl) rfl ?_
                                      exact wpO.nil ⟨_, _, rfl, fun _ ht => by cases ht; exact ⟨rfl, .refl _⟩⟩
                                    exact .nil
                                  refine wpO.retM (ins := [.box b10 [v33, w160], nestA encdom_node dom_node.kids 7 5 v33 ws159 z141.2.l none, slkA w160 z141.2.freed]) (more := [.grow v35 ((x34).map (D.int .i64))]) (H163.sel [1, 2, 3, 0] (by decide) rfl) rfl (oper_callF rfl rfl) (dom_Dom_Loose_ok E n _ _ hzz148 b10 v33 ws159 w160) (.cons (.refl _) .nil) rfl ?_
                                  rintro _ S164 _ ⟨rfl, rfl⟩ H165
                                  replace H165 : Has pureSt S164 [.box b10 [v33, w160], nestA encdom_node dom_node.kids 7 5 v33 ws159 z141.2.l none, slkA w160 z141.2.freed, .grow v35 ((x34).map (D.int .i64))] := H165
                                  have H166 : Has pureSt S164 [.grow v35 ((x34).map (D.int .i64)), .box b10 [v33, w160], nestA encdom_node dom_node.kids 7 5 v33 ws159 z141.2.l none, slkA w160 z141.2.freed] := H165.sel [3, 0, 1, 2] (by decide) rfl
                                  refine wpO.nil ⟨_, _, _, rfl, (fun _ ht => by cases ht; rfl), [some (.ptr b10 0 0), some (.d (.int .i64 x131)), some v35, some (.d (.int .i64 z58)), some (.eptr (.int .i64 z140) 0), some (.d (.int .i64 z140)), some (.d (.bool z141.1)), some (.d (.bool true)), some (.ptr b10 0 0), some (.d (.sl ((z148).map (D.int .i64)) false)), some (.d (.int .i64 ((z148).length : Int))), some (.d (.bool (((z148).length : Int) == 0))), some (.d (.bool (((z148).length : Int) == 0))), some (.d (.bool true)), some (.ptr b10 0 0), some (.d (.int .i64 x131)), none, some v35, some (.d (.int .i64 z58)), some (.eptr (.int .i64 z140) 0), some (.d (.int .i64 z140)), none, none, none, none, none, none], (.old (.refl _) (.old (.refl _) (.old (.refl _) (.old (.refl _) (.old (.refl _) (.old (.refl _) (.old (.refl _) (.old (.refl _) (.old (.refl _) (.new (.new (.new (.new (.new (.new (.new (.new (.new (.new (.new (.new (.new (.new (.new (.new (.new (.new .nil))))))))))))))))))))))))))), (fun _ ht => by cases ht; exact ⟨_, rfl, .refl _⟩), ?_⟩
                                  refine ⟨[10, 11, 12, 13, 14, 15, 17, 18, 19, 20], by kernel_rfl, ?_, _, _, rfl, rfl, .step ?_⟩
                                  ·
                                    refine .cons rfl rfl rfl (.step ?_) ?_
                                    ·
                                      refine wpO.val rfl (oper_lenL rfl es31) rfl ?_
                                      exact wpO.nil ⟨_, _, rfl, fun _ ht => by cases ht; exact ⟨rfl, .refl _⟩⟩
                                    refine .cons rfl rfl rfl (.step ?_) ?_
                                    ·
                                      refine wpO.val rfl (oper_bin rfl rfl binD_eql) rfl ?_
                                      exact wpO.nil ⟨_, _, rfl, fun _ ht => by cases ht; exact ⟨rfl, .refl _⟩⟩
                                    refine .cons rfl rfl rfl (.step ?_) ?_
                                    ·
                                      refine wpO.val rfl (oper_pick (b := true) rfl rfl) rfl ?_
                                      exact wpO.nil ⟨_, _, rfl, fun _ ht => by cases ht; exact ⟨rfl, .refl _⟩⟩
                                    refine .cons rfl rfl rfl (.step ?_) ?_
                                    ·
                                      refine wpO.val rfl (oper_move rfl) rfl ?_
                                      exact wpO.nil ⟨_, _, rfl, fun _ ht => by cases ht; exact ⟨rfl, (.eq (by rw [hb152]))⟩⟩
                                    refine .cons rfl rfl rfl (.step ?_) ?_
                                    ·
                                      refine wpO.val rfl (oper_move rfl) rfl ?_
                                      exact wpO.nil ⟨_, _, rfl, fun _ ht => by cases ht; exact ⟨rfl, .refl _⟩⟩
                                    refine .cons rfl rfl rfl (.step ?_) ?_
                                    ·
                                      refine wpO.val rfl (oper_move rfl) rfl ?_
                                      exact wpO.nil ⟨_, _, rfl, fun _ ht => by cases ht; exact ⟨rfl, .refl _⟩⟩
                                    refine .cons rfl rfl rfl (.step ?_) ?_
                                    ·
                                      refine wpO.val rfl (oper_move rfl) rfl ?_
                                      exact wpO.nil ⟨_, _, rfl, fun _ ht => by cases ht; exact ⟨rfl, .refl _⟩⟩
                                    refine .cons rfl rfl rfl (.step ?_) ?_
                                    ·
                                      refine wpO.val rfl (oper_move rfl) rfl ?_
                                      exact wpO.nil ⟨_, _, rfl, fun _ ht => by cases ht; exact ⟨rfl, .refl _⟩⟩
                                    refine .cons rfl rfl rfl (.step ?_) ?_
                                    ·
                                      refine wpO.val rfl (oper_idx rfl rfl (idxAddr_grow (enc := (D.int .i64)) H166 (i := 0) rfl hzz140 el31 as3 (((fun _ => rfl) _).trans sz3.symm))) rfl ?_
                                      exact wpO.nil ⟨_, _, rfl, fun _ ht => by cases ht; exact ⟨rfl, .refl _⟩⟩
                                    refine .cons rfl rfl rfl (.step ?_) ?_
                                    ·
                                      refine wpO.val rfl (oper_loadE rfl (partD_one ag3 rfl)) rfl ?_
                                      exact wpO.nil ⟨_, _, rfl, fun _ ht => by cases ht; exact ⟨rfl, .refl _⟩⟩
                                    exact .nil
                                  refine wpO.retM (ins := [.box b10 [v33, w160], nestA encdom_node dom_node.kids 7 5 v33 ws159 z141.2.l none, slkA w160 z141.2.freed]) (more := [.grow v35 ((x34).map (D.int .i64))]) (H166.sel [1, 2, 3, 0] (by decide) rfl) rfl (oper_callF rfl rfl) (outlet_Hung_ok E n _ _ _ hzz153 b10 v33 ws159 w160) (.cons (.refl _) (.cons (.refl _) .nil)) rfl ?_
                                  rintro _ S167 _ ⟨rfl, rfl⟩ H168
                                  replace H168 : Has pureSt S167 [.box b10 [v33, w160], nestA encdom_node dom_node.kids 7 5 v33 ws159 z141.2.l none, slkA w160 z141.2.freed, .grow v35 ((x34).map (D.int .i64))] := H168
                                  have H169 : Has pureSt S167 [.grow v35 ((x34).map (D.int .i64)), .box b10 [v33, w160], nestA encdom_node dom_node.kids 7 5 v33 ws159 z141.2.l none, slkA w160 z141.2.freed] := H168.sel [3, 0, 1, 2] (by decide) rfl
                                  refine wpO.nil ⟨_, _, _, rfl, (fun _ ht => by cases ht; rfl), [some (.ptr b10 0 0), some (.d (.int .i64 x131)), some v35, some (.d (.int .i64 z58)), some (.eptr (.int .i64 z140) 0), some (.d (.int .i64 z140)), some (.d (.bool z141.1)), some (.d (.bool true)), some (.ptr b10 0 0), some (.d (.sl ((z148).map (D.int .i64)) false)), some (.d (.int .i64 ((z148).length : Int))), some (.d (.bool (((z148).length : Int) == 0))), some (.d (.bool (((z148).length : Int) == 0))), some (.d (.bool true)), some (.ptr b10 0 0), some (.d (.int .i64 x131)), some (.d (.int .i64 z153)), some v35, some (.d (.int .i64 z58)), some (.eptr (.int .i64 z140) 0), some (.d (.int .i64 z140)), some (.d (.bool (z153 == z140))), some (.d (.bool (z153 == z140))), some (.d (.bool true)), some (.d (.bool z158)), some (.d (.bool z158)), some (.d (.bool z158))], (.old (.refl _) (.old (.refl _) (.old (.refl _) (.old (.refl _) (.old (.refl _) (.old (.refl _) (.old (.refl _) (.old (.refl _) (.old (.refl _) (.old (.refl _) (.old (.refl _) (.old (.refl _) (.old (.refl _) (.old (.refl _) (.old (.refl _) (.old (.refl _) (.new (.old (.refl _) (.old (.refl _) (.old (.refl _) (.old (.refl _) (.new (.new (.new (.new (.new (.new .nil))))))))))))))))))))))))))), (fun _ ht => by cases ht; exact ⟨_, rfl, .refl _⟩), ?_⟩
                                  refine ⟨[17, 18, 19, 20, 21, 22, 23, 24, 25, 26], by kernel_rfl, ?_, _, rfl, ?_⟩
                                  ·
                                    refine .cons rfl rfl rfl (.step ?_) ?_
                                    ·
                                      refine wpO.val rfl (oper_move rfl) rfl ?_
                                      exact wpO.nil ⟨_, _, rfl, fun _ ht => by cases ht; exact ⟨rfl, .refl _⟩⟩
                                    refine .cons rfl rfl rfl (.step ?_) ?_
                                    ·
                                      refine wpO.val rfl (oper_move rfl) rfl ?_
                                      exact wpO.nil ⟨_, _, rfl, fun _ ht => by cases ht; exact ⟨rfl, .refl _⟩⟩
                                    refine .cons rfl rfl rfl (.step ?_) ?_
                                    ·
                                      refine wpO.val rfl (oper_idx rfl rfl (idxAddr_grow (enc := (D.int .i64)) H169 (i := 0) rfl hzz140 el31 as3 (((fun _ => rfl) _).trans sz3.symm))) rfl ?_
                                      exact wpO.nil ⟨_, _, rfl, fun _ ht => by cases ht; exact ⟨rfl, .refl _⟩⟩
                                    refine .cons rfl rfl rfl (.step ?_) ?_
                                    ·
                                      refine wpO.val rfl (oper_loadE rfl (partD_one ag3 rfl)) rfl ?_
                                      exact wpO.nil ⟨_, _, rfl, fun _ ht => by cases ht; exact ⟨rfl, .refl _⟩⟩
                                    refine .cons rfl rfl rfl (.step ?_) ?_
                                    ·
                                      refine wpO.val rfl (oper_bin rfl rfl binD_eql) rfl ?_
                                      exact wpO.nil ⟨_, _, rfl, fun _ ht => by cases ht; exact ⟨rfl, .refl _⟩⟩
                                    refine .cons rfl rfl rfl (.step ?_) ?_
                                    ·
                                      refine wpO.val rfl (oper_pick (b := true) rfl rfl) rfl ?_
                                      exact wpO.nil ⟨_, _, rfl, fun _ ht => by cases ht; exact ⟨rfl, .refl _⟩⟩
                                    refine .cons rfl rfl rfl (.step ?_) ?_
                                    ·
                                      refine wpO.val rfl (oper_move rfl) rfl ?_
                                      exact wpO.nil ⟨_, _, rfl, fun _ ht => by cases ht; exact ⟨rfl, (.eq (by rw [hb157]))⟩⟩
                                    refine .cons rfl rfl rfl (.step ?_) ?_
                                    ·
                                      refine wpO.ret rfl (oper_callF rfl rfl) (E.porticolaw20_OutletRuns_ok _  _ hzz158 _ _ .nil) rfl ?_
                                      exact wpO.nil ⟨_, _, rfl, fun _ ht => by cases ht; exact ⟨rfl, .refl _⟩⟩
                                    refine .cons rfl rfl rfl (.step ?_) ?_
                                    ·
                                      refine wpO.val rfl (oper_pick (b := true) rfl rfl) rfl ?_
                                      exact wpO.nil ⟨_, _, rfl, fun _ ht => by cases ht; exact ⟨rfl, .refl _⟩⟩
                                    refine .cons rfl rfl rfl (.step ?_) ?_
                                    ·
                                      refine wpO.val rfl (oper_assign rfl) rfl ?_
                                      exact wpO.nil ⟨_, _, rfl, fun _ ht => by cases ht; exact ⟨rfl, .refl _⟩⟩
                                    exact .nil
                                  exact ⟨⟨z141.2, ws159, w160, z158⟩, _, _, S167, .refl _ _, .refl _, (WeakE.cons rfl (.refl _) WeakE.nil), H169.sel [] (by decide) rfl, h⟩
                                ·
                                  replace h := if_f hb157 h
                                  refine WpC.drawP E.obj hmix [[(5, none)], [(18, none)], [(7, none)], [(11, none)], [(136, some 2), (137, some 3)], [(138, some 4)], [(134, some 0), (135, some 1), (139, some 5)], [(140, some 6)], [(5, none), (141, some 7)], [(142, some 8), (141, some 7)], [(143, some 9), (141, some 7)], [(144, some 10), (141, some 7)], [(141, some 7), (145, some 11)], [(146, some 12)], [(5, none), (147, some 13)], [(18, none), (147, some 13)], [(148, some 14), (149, some 15), (147, some 13)], [(7, none), (147, some 13)], [(11, none), (147, some 13)], [(151, some 17), (152, some 18), (147, some 13)], [(153, some 19), (147, some 13)], [(150, some 16), (154, some 20), (147, some 13)], [(147, some 13), (155, some 21)], [(156, some 22)], [(157, some 23)], [(157, some 23), (158, some 24)], [(159, some 25)]] [(4, some 26)] (by kernel_rfl) [6, 9, 16] (by decide) [some (.ptr b10 0 0), some (.d (.int .i64 x131)), some v35, some (.d (.int .i64 z58)), some (.eptr (.int .i64 z140) 0), some (.d (.int .i64 z140)), none, none, none, none, none, none, none, none, none, none, none, none, none, none, none, none, none, none, none, none, none] ?_
                                  refine ⟨[0, 1, 2, 3, 4, 5], by kernel_rfl, ?_, _, _, rfl, rfl, .step ?_⟩
                                  ·
                                    refine .cons rfl rfl rfl (.step ?_) ?_
                                    ·
                                      refine wpO.val rfl (oper_move rfl) rfl ?_
                                      exact wpO.nil ⟨_, _, rfl, fun _ ht => by cases ht; exact ⟨rfl, .refl _⟩⟩
                                    refine .cons rfl rfl rfl (.step ?_) ?_
                                    ·
                                      refine wpO.val rfl (oper_move rfl) rfl ?_
                                      exact wpO.nil ⟨_, _, rfl, fun _ ht => by cases ht; exact ⟨rfl, .refl _⟩⟩
                                    refine .cons rfl rfl rfl (.step ?_) ?_
                                    ·
                                      refine wpO.val rfl (oper_move rfl) rfl ?_
                                      exact wpO.nil ⟨_, _, rfl, fun _ ht => by cases ht; exact ⟨rfl, .refl _⟩⟩
                                    refine .cons rfl rfl rfl (.step ?_) ?_
                                    ·
                                      refine wpO.val rfl (oper_move rfl) rfl ?_
                                      exact wpO.nil ⟨_, _, rfl, fun _ ht => by cases ht; exact ⟨rfl, .refl _⟩⟩
                                    refine .cons rfl rfl rfl (.step ?_) ?_
                                    ·
                                      refine wpO.val rfl (oper_idx rfl rfl (idxAddr_grow (enc := (D.int .i64)) H130 (i := 0) rfl hzz140 el31 as3 (((fun _ => rfl) _).trans sz3.symm))) rfl ?_
                                      exact wpO.nil ⟨_, _, rfl, fun _ ht => by cases ht; exact ⟨rfl, .refl _⟩⟩
                                    refine .cons rfl rfl rfl (.step ?_) ?_
                                    ·
                                      refine wpO.val rfl (oper_loadE rfl (partD_one ag3 rfl)) rfl ?_
                                      exact wpO.nil ⟨_, _, rfl, fun _ ht => by cases ht; exact ⟨rfl, .refl _⟩⟩
                                    exact .nil
                                  refine wpO.retM (ins := [.box b10 [v33, w91], nestA encdom_node dom_node.kids 7 5 v33 ws90 z89.2.l none, slkA w91 z89.2.freed]) (more := [.grow v35 ((x34).map (D.int .i64))]) (H130.sel [1, 2, 3, 0] (by decide) rfl) rfl (oper_callF rfl rfl) (outlet_Hang_ok E n _ _ _ _ hzz141 b10 v33 ws90 w91) (.cons (.refl _) (.cons (.refl _) (.cons (.refl _) .nil))) rfl ?_
                                  rintro _ S172 _ ⟨rfl, ws170, w171, rfl⟩ H173
                                  replace H173 : Has pureSt S172 [.box b10 [v33, w171], nestA encdom_node dom_node.kids 7 5 v33 ws170 z141.2.l none, slkA w171 z141.2.freed, .grow v35 ((x34).map (D.int .i64))] := H173
                                  have H174 : Has pureSt S172 [.grow v35 ((x34).map (D.int .i64)), .box b10 [v33, w171], nestA encdom_node dom_node.kids 7 5 v33 ws170 z141.2.l none, slkA w171 z141.2.freed] := H173.sel [3, 0, 1, 2] (by decide) rfl
                                  refine wpO.nil ⟨_, _, _, rfl, (fun _ ht => by cases ht; rfl), [some (.ptr b10 0 0), some (.d (.int .i64 x131)), some v35, some (.d (.int .i64 z58)), some (.eptr (.int .i64 z140) 0), some (.d (.int .i64 z140)), some (.d (.bool z141.1)), some (.d (.bool true)), some (.ptr b10 0 0), none, none, none, none, none, none, none, none, none, none, none, none, none, none, none, none, none, none], (.old (.refl _) (.old (.refl _) (.old (.refl _) (.old (.refl _) (.old (.refl _) (.old (.refl _) (.new (.new (.new (.new (.new (.new (.new (.new (.new (.new (.new (.new (.new (.new (.new (.new (.new (.new (.new (.new (.new .nil))))))))))))))))))))))))))), (fun _ ht => by cases ht; exact ⟨_, rfl, .refl _⟩), ?_⟩
                                  refine ⟨[7, 8], by kernel_rfl, ?_, _, _, rfl, rfl, .step ?_⟩
                                  ·
                                    refine .cons rfl rfl rfl (.step ?_) ?_
                                    ·
                                      refine wpO.val rfl (oper_move rfl) rfl ?_
                                      exact wpO.nil ⟨_, _, rfl, fun _ ht => by cases ht; exact ⟨rfl, (.eq (by rw [hb147]))⟩⟩
                                    refine .cons rfl rfl rfl (.step ?_) ?_
                                    ·
                                      refine wpO.val rfl (oper_move rfl) rfl ?_
                                      exact wpO.nil ⟨_, _, rfl, fun _ ht => by cases ht; exact ⟨rfl, .refl _⟩⟩
                                    exact .nil
                                  refine wpO.retM (ins := [.box b10 [v33, w171], nestA encdom_node dom_node.kids 7 5 v33 ws170 z141.2.l none, slkA w171 z141.2.freed]) (more := [.grow v35 ((x34).map (D.int .i64))]) (H174.sel [1, 2, 3, 0] (by decide) rfl) rfl (oper_callF rfl rfl) (dom_Dom_Loose_ok E n _ _ hzz148 b10 v33 ws170 w171) (.cons (.refl _) .nil) rfl ?_
                                  rintro _ S175 _ ⟨rfl, rfl⟩ H176
                                  replace H176 : Has pureSt S175 [.box b10 [v33, w171], nestA encdom_node dom_node.kids 7 5 v33 ws170 z141.2.l none, slkA w171 z141.2.freed, .grow v35 ((x34).map (D.int .i64))] := H176
                                  have H177 : Has pureSt S175 [.grow v35 ((x34).map (D.int .i64)), .box b10 [v33, w171], nestA encdom_node dom_node.kids 7 5 v33 ws170 z141.2.l none, slkA w171 z141.2.freed] := H176.sel [3, 0, 1, 2] (by decide) rfl
                                  refine wpO.nil ⟨_, _, _, rfl, (fun _ ht => by cases ht; rfl), [some (.ptr b10 0 0), some (.d (.int .i64 x131)), some v35, some (.d (.int .i64 z58)), some (.eptr (.int .i64 z140) 0), some (.d (.int .i64 z140)), some (.d (.bool z141.1)), some (.d (.bool true)), some (.ptr b10 0 0), some (.d (.sl ((z148).map (D.int .i64)) false)), some (.d (.int .i64 ((z148).length : Int))), some (.d (.bool (((z148).length : Int) == 0))), some (.d (.bool (((z148).length : Int) == 0))), some (.d (.bool true)), some (.ptr b10 0 0), some (.d (.int .i64 x131)), none, some v35, some (.d (.int .i64 z58)), some (.eptr (.int .i64 z140) 0), some (.d (.int .i64 z140)), none, none, none, none, none, none], (.old (.refl _) (.old (.refl _) (.old (.refl _) (.old (.refl _) (.old (.refl _) (.old (.refl _) (.old (.refl _) (.old (.refl _) (.old (.refl _) (.new (.new (.new (.new (.new (.new (.new (.new (.new (.new (.new (.new (.new (.new (.new (.new (.new (.new .nil))))))))))))))))))))))))))), (fun _ ht => by cases ht; exact ⟨_, rfl, .refl _⟩), ?_⟩
                                  refine ⟨[10, 11, 12, 13, 14, 15, 17, 18, 19, 20], by kernel_rfl, ?_, _, _, rfl, rfl, .step ?_⟩
                                  ·
                                    refine .cons rfl rfl rfl (.step ?_) ?_
                                    ·
                                      refine wpO.val rfl (oper_lenL rfl es31) rfl ?_
                                      exact wpO.nil ⟨_, _, rfl, fun _ ht => by cases ht; exact ⟨rfl, .refl _⟩⟩
                                    refine .cons rfl rfl rfl (.step ?_) ?_
                                    ·
                                      refine wpO.val rfl (oper_bin rfl rfl binD_eql) rfl ?_
                                      exact wpO.nil ⟨_, _, rfl, fun _ ht => by cases ht; exact ⟨rfl, .refl _⟩⟩
                                    refine .cons rfl rfl rfl (.step ?_) ?_
                                    ·
                                      refine wpO.val rfl (oper_pick (b := true) rfl rfl) rfl ?_
                                      exact wpO.nil ⟨_, _, rfl, fun _ ht => by cases ht; exact ⟨rfl, .refl _⟩⟩
                                    refine .cons rfl rfl rfl (.step ?_) ?_
                                    ·
                                      refine wpO.val rfl (oper_move rfl) rfl ?_
                                      exact wpO.nil ⟨_, _, rfl, fun _ ht => by cases ht; exact ⟨rfl, (.eq (by rw [hb152]))⟩⟩
                                    refine .cons rfl rfl rfl (.step ?_) ?_
                                    ·
                                      refine wpO.val rfl (oper_move rfl) rfl ?_
                                      exact wpO.nil ⟨_, _, rfl, fun _ ht => by cases ht; exact ⟨rfl, .refl _⟩⟩
                                    refine .cons rfl rfl rfl (.step ?_) ?_
                                    ·
                                      refine wpO.val rfl (oper_move rfl) rfl ?_
                                      exact wpO.nil ⟨_, _, rfl, fun _ ht => by cases ht; exact ⟨rfl, .refl _⟩⟩
                                    refine .cons rfl rfl rfl (.step ?_) ?_
                                    ·
                                      refine wpO.val rfl (oper_move rfl) rfl ?_
                                      exact wpO.nil ⟨_, _, rfl, fun _ ht => by cases ht; exact ⟨rfl, .refl _⟩⟩
                                    refine .cons rfl rfl rfl (.step ?_) ?_
                                    ·
                                      refine wpO.val rfl (oper_move rfl) rfl ?_
                                      exact wpO.nil ⟨_, _, rfl, fun _ ht => by cases ht; exact ⟨rfl, .refl _⟩⟩
                                    refine .cons rfl rfl rfl (.step ?_) ?_
                                    ·
                                      refine wpO.val rfl (oper_idx rfl rfl (idxAddr_grow (enc := (D.int .i64)) H177 (i := 0) rfl hzz140 el31 as3 (((fun _ => rfl) _).trans sz3.symm))) rfl ?_
                                      exact wpO.nil ⟨_, _, rfl, fun _ ht => by cases ht; exact ⟨rfl, .refl _⟩⟩
                                    refine .cons rfl rfl rfl (.step ?_) ?_
                                    ·
                                      refine wpO.val rfl (oper_loadE rfl (partD_one ag3 rfl)) rfl ?_
                                      exact wpO.nil ⟨_, _, rfl, fun _ ht => by cases ht; exact ⟨rfl, .refl _⟩⟩
                                    exact .nil
                                  refine wpO.retM (ins := [.box b10 [v33, w171], nestA encdom_node dom_node.kids 7 5 v33 ws170 z141.2.l none, slkA w171 z141.2.freed]) (more := [.grow v35 ((x34).map (D.int .i64))]) (H177.sel [1, 2, 3, 0] (by decide) rfl) rfl (oper_callF rfl rfl) (outlet_Hung_ok E n _ _ _ hzz153 b10 v33 ws170 w171) (.cons (.refl _) (.cons (.refl _) .nil)) rfl ?_
                                  rintro _ S178 _ ⟨rfl, rfl⟩ H179
                                  replace H179 : Has pureSt S178 [.box b10 [v33, w171], nestA encdom_node dom_node.kids 7 5 v33 ws170 z141.2.l none, slkA w171 z141.2.freed, .grow v35 ((x34).map (D.int .i64))] := H179
                                  have H180 : Has pureSt S178 [.grow v35 ((x34).map (D.int .i64)), .box b10 [v33, w171], nestA encdom_node dom_node.kids 7 5 v33 ws170 z141.2.l none, slkA w171 z141.2.freed] := H179.sel [3, 0, 1, 2] (by decide) rfl
                                  refine wpO.nil ⟨_, _, _, rfl, (fun _ ht => by cases ht; rfl), [some (.ptr b10 0 0), some (.d (.int .i64 x131)), some v35, some (.d (.int .i64 z58)), some (.eptr (.int .i64 z140) 0), some (.d (.int .i64 z140)), some (.d (.bool z141.1)), some (.d (.bool true)), some (.ptr b10 0 0), some (.d (.sl ((z148).map (D.int .i64)) false)), some (.d (.int .i64 ((z148).length : Int))), some (.d (.bool (((z148).length : Int) == 0))), some (.d (.bool (((z148).length : Int) == 0))), some (.d (.bool true)), some (.ptr b10 0 0), some (.d (.int .i64 x131)), some (.d (.int .i64 z153)), some v35, some (.d (.int .i64 z58)), some (.eptr (.int .i64 z140) 0), some (.d (.int .i64 z140)), some (.d (.bool (z153 == z140))), some (.d (.bool (z153 == z140))), some (.d (.bool false)), some (.tup []), some (.d (.bool false)), some (.d (.bool false))], (.old (.refl _) (.old (.refl _) (.old (.refl _) (.old (.refl _) (.old (.refl _) (.old (.refl _) (.old (.refl _) (.old (.refl _) (.old (.refl _) (.old (.refl _) (.old (.refl _) (.old (.refl _) (.old (.refl _) (.old (.refl _) (.old (.refl _) (.old (.refl _) (.new (.old (.refl _) (.old (.refl _) (.old (.refl _) (.old (.refl _) (.new (.new (.new (.new (.new (.new .nil))))))))))))))))))))))))))), (fun _ ht => by cases ht; exact ⟨_, rfl, .refl _⟩), ?_⟩
                                  refine ⟨[17, 18, 19, 20, 21, 22, 23, 24, 25, 26], by kernel_rfl, ?_, _, rfl, ?_⟩
                                  ·
                                    refine .cons rfl rfl rfl (.step ?_) ?_
                                    ·
                                      refine wpO.val rfl (oper_move rfl) rfl ?_
                                      exact wpO.nil ⟨_, _, rfl, fun _ ht => by cases ht; exact ⟨rfl, .refl _⟩⟩
                                    refine .cons rfl rfl rfl (.step ?_) ?_
                                    ·
                                      refine wpO.val rfl (oper_move rfl) rfl ?_
                                      exact wpO.nil ⟨_, _, rfl, fun _ ht => by cases ht; exact ⟨rfl, .refl _⟩⟩
                                    refine .cons rfl rfl rfl (.step ?_) ?_
                                    ·
                                      refine wpO.val rfl (oper_idx rfl rfl (idxAddr_grow (enc := (D.int .i64)) H180 (i := 0) rfl hzz140 el31 as3 (((fun _ => rfl) _).trans sz3.symm))) rfl ?_
                                      exact wpO.nil ⟨_, _, rfl, fun _ ht => by cases ht; exact ⟨rfl, .refl _⟩⟩
                                    refine .cons rfl rfl rfl (.step ?_) ?_
                                    ·
                                      refine wpO.val rfl (oper_loadE rfl (partD_one ag3 rfl)) rfl ?_
                                      exact wpO.nil ⟨_, _, rfl, fun _ ht => by cases ht; exact ⟨rfl, .refl _⟩⟩
                                    refine .cons rfl rfl rfl (.step ?_) ?_
                                    ·
                                      refine wpO.val rfl (oper_bin rfl rfl binD_eql) rfl ?_
                                      exact wpO.nil ⟨_, _, rfl, fun _ ht => by cases ht; exact ⟨rfl, .refl _⟩⟩
                                    refine .cons rfl rfl rfl (.step ?_) ?_
                                    ·
                                      refine wpO.val rfl (oper_pick (b := true) rfl rfl) rfl ?_
                                      exact wpO.nil ⟨_, _, rfl, fun _ ht => by cases ht; exact ⟨rfl, .refl _⟩⟩
                                    refine .cons rfl rfl rfl (.step ?_) ?_
                                    ·
                                      refine wpO.val rfl (oper_move rfl) rfl ?_
                                      exact wpO.nil ⟨_, _, rfl, fun _ ht => by cases ht; exact ⟨rfl, (.eq (by rw [hb157]))⟩⟩
                                    refine .cons rfl rfl rfl (.no rfl (.refl _)) ?_
                                    refine .cons rfl rfl rfl (.step ?_) ?_
                                    ·
                                      refine wpO.val rfl (oper_pick (b := false) rfl rfl) rfl ?_
                                      exact wpO.nil ⟨_, _, rfl, fun _ ht => by cases ht; exact ⟨rfl, .refl _⟩⟩
                                    refine .cons rfl rfl rfl (.step ?_) ?_
                                    ·
                                      refine wpO.val rfl (oper_assign rfl) rfl ?_
                                      exact wpO.nil ⟨_, _, rfl, fun _ ht => by cases ht; exact ⟨rfl, .refl _⟩⟩
                                    exact .nil
                                  exact ⟨⟨z141.2, ws170, w171, false⟩, _, _, S178, .refl _ _, .refl _, (WeakE.cons rfl (.refl _) WeakE.nil), H180.sel [] (by decide) rfl, h⟩
                              ·
                                replace h := if_f hb152 h
                                refine WpC.drawP E.obj hmix [[(5, none)], [(18, none)], [(7, none)], [(11, none)], [(136, some 2), (137, some 3)], [(138, some 4)], [(134, some 0), (135, some 1), (139, some 5)], [(140, some 6)], [(5, none), (141, some 7)], [(142, some 8), (141, some 7)], [(143, some 9), (141, some 7)], [(144, some 10), (141, some 7)], [(141, some 7), (145, some 11)], [(146, some 12)], [(5, none), (147, some 13)], [(18, none), (147, some 13)], [(148, some 14), (149, some 15), (147, some 13)], [(7, none), (147, some 13)], [(11, none), (147, some 13)], [(151, some 17), (152, some 18), (147, some 13)], [(153, some 19), (147, some 13)], [(150, some 16), (154, some 20), (147, some 13)], [(147, some 13), (155, some 21)], [(156, some 22)], [(157, some 23)], [(157, some 23), (158, some 24)], [(159, some 25)]] [(4, some 26)] (by kernel_rfl) [6, 9, 16] (by decide) [some (.ptr b10 0 0), some (.d (.int .i64 x131)), some v35, some (.d (.int .i64 z58)), some (.eptr (.int .i64 z140) 0), some (.d (.int .i64 z140)), none, none, none, none, none, none, none, none, none, none, none, none, none, none, none, none, none, none, none, none, none] ?_
                                refine ⟨[0, 1, 2, 3, 4, 5], by kernel_rfl, ?_, _, _, rfl, rfl, .step ?_⟩
                                ·
                                  refine .cons rfl rfl rfl (.step ?_) ?_
                                  ·
                                    refine wpO.val rfl (oper_move rfl) rfl ?_
                                    exact wpO.nil ⟨_, _, rfl, fun _ ht => by cases ht; exact ⟨rfl, .refl _⟩⟩
                                  refine .cons rfl rfl rfl (.step ?_) ?_
                                  ·
                                    refine wpO.val rfl (oper_move rfl) rfl ?_
                                    exact wpO.nil ⟨_, _, rfl, fun _ ht => by cases ht; exact ⟨rfl, .refl _⟩⟩
                                  refine .cons rfl rfl rfl (.step ?_) ?_
                                  ·
                                    refine wpO.val rfl (oper_move rfl) rfl ?_
                                    exact wpO.nil ⟨_, _, rfl, fun _ ht => by cases ht; exact ⟨rfl, .refl _⟩⟩
                                  refine .cons rfl rfl rfl (.step ?_) ?_
                                  ·
                                    refine wpO.val rfl (oper_move rfl) rfl ?_
                                    exact wpO.nil ⟨_, _, rfl, fun _ ht => by cases ht; exact ⟨rfl, .refl _⟩⟩
                                  refine .cons rfl rfl rfl (.step ?_) ?_
                                  ·
                                    refine wpO.val rfl (oper_idx rfl rfl (idxAddr_grow (enc := (D.int .i64)) H130 (i := 0) rfl hzz140 el31 as3 (((fun _ => rfl) _).trans sz3.symm))) rfl ?_
                                    exact wpO.nil ⟨_, _, rfl, fun _ ht => by cases ht; exact ⟨rfl, .refl _⟩⟩
                                  refine .cons rfl rfl rfl (.step ?_) ?_
                                  ·
                                    refine wpO.val rfl (oper_loadE rfl (partD_one ag3 rfl)) rfl ?_
                                    exact wpO.nil ⟨_, _, rfl, fun _ ht => by cases ht; exact ⟨rfl, .refl _⟩⟩
                                  exact .nil
                                refine wpO.retM (ins := [.box b10 [v33, w91], nestA encdom_node dom_node.kids 7 5 v33 ws90 z89.2.l none, slkA w91 z89.2.freed]) (more := [.grow v35 ((x34).map (D.int .i64))]) (H130.sel [1, 2, 3, 0] (by decide) rfl) rfl (oper_callF rfl rfl) (outlet_Hang_ok E n _ _ _ _ hzz141 b10 v33 ws90 w91) (.cons (.refl _) (.cons (.refl _) (.cons (.refl _) .nil))) rfl ?_
                                rintro _ S183 _ ⟨rfl, ws181, w182, rfl⟩ H184
                                replace H184 : Has pureSt S183 [.box b10 [v33, w182], nestA encdom_node dom_node.kids 7 5 v33 ws181 z141.2.l none, slkA w182 z141.2.freed, .grow v35 ((x34).map (D.int .i64))] := H184
                                have H185 : Has pureSt S183 [.grow v35 ((x34).map (D.int .i64)), .box b10 [v33, w182], nestA encdom_node dom_node.kids 7 5 v33 ws181 z141.2.l none, slkA w182 z141.2.freed] := H184.sel [3, 0, 1, 2] (by decide) rfl
                                refine wpO.nil ⟨_, _, _, rfl, (fun _ ht => by cases ht; rfl), [some (.ptr b10 0 0), some (.d (.int .i64 x131)), some v35, some (.d (.int .i64 z58)), some (.eptr (.int .i64 z140) 0), some (.d (.int .i64 z140)), some (.d (.bool z141.1)), some (.d (.bool true)), some (.ptr b10 0 0), none, none, none, none, none, none, none, none, none, none, none, none, none, none, none, none, none, none], (.old (.refl _) (.old (.refl _) (.old (.refl _) (.old (.refl _) (.old (.refl _) (.old (.refl _) (.new (.new (.new (.new (.new (.new (.new (.new (.new (.new (.new (.new (.new (.new (.new (.new (.new (.new (.new (.new (.new .nil))))))))))))))))))))))))))), (fun _ ht => by cases ht; exact ⟨_, rfl, .refl _⟩), ?_⟩
                                refine ⟨[7, 8], by kernel_rfl, ?_, _, _, rfl, rfl, .step ?_⟩
                                ·
                                  refine .cons rfl rfl rfl (.step ?_) ?_
                                  ·
                                    refine wpO.val rfl (oper_move rfl) rfl ?_
                                    exact wpO.nil ⟨_, _, rfl, fun _ ht => by cases ht; exact ⟨rfl, (.eq (by rw [hb147]))⟩⟩
                                  refine .cons rfl rfl rfl (.step ?_) ?_
                                  ·
                                    refine wpO.val rfl (oper_move rfl) rfl ?_
                                    exact wpO.nil ⟨_, _, rfl, fun _ ht => by cases ht; exact ⟨rfl, .refl _⟩⟩
                                  exact .nil
                                refine wpO.retM (ins := [.box b10 [v33, w182], nestA encdom_node dom_node.kids 7 5 v33 ws181 z141.2.l none, slkA w182 z141.2.freed]) (more := [.grow v35 ((x34).map (D.int .i64))]) (H185.sel [1, 2, 3, 0] (by decide) rfl) rfl (oper_callF rfl rfl) (dom_Dom_Loose_ok E n _ _ hzz148 b10 v33 ws181 w182) (.cons (.refl _) .nil) rfl ?_
                                rintro _ S186 _ ⟨rfl, rfl⟩ H187
                                replace H187 : Has pureSt S186 [.box b10 [v33, w182], nestA encdom_node dom_node.kids 7 5 v33 ws181 z141.2.l none, slkA w182 z141.2.freed, .grow v35 ((x34).map (D.int .i64))] := H187
                                have H188 : Has pureSt S186 [.grow v35 ((x34).map (D.int .i64)), .box b10 [v33, w182], nestA encdom_node dom_node.kids 7 5 v33 ws181 z141.2.l none, slkA w182 z141.2.freed] := H187.sel [3, 0, 1, 2] (by decide) rfl
                                refine wpO.nil ⟨_, _, _, rfl, (fun _ ht => by cases ht; rfl), [some (.ptr b10 0 0), some (.d (.int .i64 x131)), some v35, some (.d (.int .i64 z58)), some (.eptr (.int .i64 z140) 0), some (.d (.int .i64 z140)), some (.d (.bool z141.1)), some (.d (.bool true)), some (.ptr b10 0 0), some (.d (.sl ((z148).map (D.int .i64)) false)), some (.d (.int .i64 ((z148).length : Int))), some (.d (.bool (((z148).length : Int) == 0))), some (.d (.bool (((z148).length : Int) == 0))), some (.d (.bool false)), some (.tup []), some (.tup []), none, some (.tup []), some (.tup []), some (.tup []), some (.tup []), none, none, none, none, none, none], (.old (.refl _) (.old (.refl _) (.old (.refl _) (.old (.refl _) (.old (.refl _) (.old (.refl _) (.old (.refl _) (.old (.refl _) (.old (.refl _) (.new (.new (.new (.new (.new (.new (.new (.new (.new (.new (.new (.new (.new (.new (.new (.new (.new (.new .nil))))))))))))))))))))))))))), (fun _ ht => by cases ht; exact ⟨_, rfl, .refl _⟩), ?_⟩
                                refine ⟨[10, 11, 12, 13, 14, 15, 17, 18, 19, 20], by kernel_rfl, ?_, _, _, rfl, rfl, .no rfl ?_⟩
                                ·
                                  refine .cons rfl rfl rfl (.step ?_) ?_
                                  ·
                                    refine wpO.val rfl (oper_lenL rfl es31) rfl ?_
                                    exact wpO.nil ⟨_, _, rfl, fun _ ht => by cases ht; exact ⟨rfl, .refl _⟩⟩
                                  refine .cons rfl rfl rfl (.step ?_) ?_
                                  ·
                                    refine wpO.val rfl (oper_bin rfl rfl binD_eql) rfl ?_
                                    exact wpO.nil ⟨_, _, rfl, fun _ ht => by cases ht; exact ⟨rfl, .refl _⟩⟩
                                  refine .cons rfl rfl rfl (.step ?_) ?_
                                  ·
                                    refine wpO.val rfl (oper_pick (b := true) rfl rfl) rfl ?_
                                    exact wpO.nil ⟨_, _, rfl, fun _ ht => by cases ht; exact ⟨rfl, .refl _⟩⟩
                                  refine .cons rfl rfl rfl (.step ?_) ?_
                                  ·
                                    refine wpO.val rfl (oper_move rfl) rfl ?_
                                    exact wpO.nil ⟨_, _, rfl, fun _ ht => by cases ht; exact ⟨rfl, (.eq (by rw [hb152]))⟩⟩
                                  refine .cons rfl rfl rfl (.no rfl (.refl _)) ?_
                                  refine .cons rfl rfl rfl (.no rfl (.refl _)) ?_
                                  refine .cons rfl rfl rfl (.no rfl (.refl _)) ?_
                                  refine .cons rfl rfl rfl (.no rfl (.refl _)) ?_
                                  refine .cons rfl rfl rfl (.no rfl (.refl _)) ?_
                                  refine .cons rfl rfl rfl (.no rfl (.refl _)) ?_
                                  exact .nil
                                refine ⟨[some (.ptr b10 0 0), some (.d (.int .i64 x131)), some v35, some (.d (.int .i64 z58)), some (.eptr (.int .i64 z140) 0), some (.d (.int .i64 z140)), some (.d (.bool z141.1)), some (.d (.bool true)), some (.ptr b10 0 0), some (.d (.sl ((z148).map (D.int .i64)) false)), some (.d (.int .i64 ((z148).length : Int))), some (.d (.bool (((z148).length : Int) == 0))), some (.d (.bool (((z148).length : Int) == 0))), some (.d (.bool false)), some (.tup []), some (.tup []), some (.tup []), some (.tup []), some (.tup []), some (.tup []), some (.tup []), some (.tup []), some (.d (.bool false)), some (.d (.bool false)), some (.tup []), some (.d (.bool false)), some (.d (.bool false))], (.old (.refl _) (.old (.refl _) (.old (.refl _) (.old (.refl _) (.old (.refl _) (.old (.refl _) (.old (.refl _) (.old (.refl _) (.old (.refl _) (.old (.refl _) (.old (.refl _) (.old (.refl _) (.old (.refl _) (.old (.refl _) (.old (.refl _) (.old (.refl _) (.new (.old (.refl _) (.old (.refl _) (.old (.refl _) (.old (.refl _) (.new (.new (.new (.new (.new (.new .nil))))))))))))))))))))))))))), (fun _ ht => by cases ht; exact ⟨_, rfl, .refl _⟩), ?_⟩
                                refine ⟨[17, 18, 19, 20, 21, 22, 23, 24, 25, 26], by kernel_rfl, ?_, _, rfl, ?_⟩
                                ·
                                  refine .cons rfl rfl rfl (.no rfl (.refl _)) ?_
                                  refine .cons rfl rfl rfl (.no rfl (.refl _)) ?_
                                  refine .cons rfl rfl rfl (.no rfl (.refl _)) ?_
                                  refine .cons rfl rfl rfl (.no rfl (.refl _)) ?_
                                  refine .cons rfl rfl rfl (.no rfl (.refl _)) ?_
                                  refine .cons rfl rfl rfl (.step ?_) ?_
                                  ·
                                    refine wpO.val rfl (oper_pick (b := false) rfl rfl) rfl ?_
                                    exact wpO.nil ⟨_, _, rfl, fun _ ht => by cases ht; exact ⟨rfl, .refl _⟩⟩
                                  refine .cons rfl rfl rfl (.step ?_) ?_
                                  ·
                                    refine wpO.val rfl (oper_move rfl) rfl ?_
                                    exact wpO.nil ⟨_, _, rfl, fun _ ht => by cases ht; exact ⟨rfl, .refl _⟩⟩
                                  refine .cons rfl rfl rfl (.no rfl (.refl _)) ?_
                                  refine .cons rfl rfl rfl (.step ?_) ?_
                                  ·
                                    refine wpO.val rfl (oper_pick (b := false) rfl rfl) rfl ?_
                                    exact wpO.nil ⟨_, _, rfl, fun _ ht => by cases ht; exact ⟨rfl, .refl _⟩⟩
                                  refine .cons rfl rfl rfl (.step ?_) ?_
                                  ·
                                    refine wpO.val rfl (oper_assign rfl) rfl ?_
                                    exact wpO.nil ⟨_, _, rfl, fun _ ht => by cases ht; exact ⟨rfl, .refl _⟩⟩
                                  exact .nil
                                exact ⟨⟨z141.2, ws181, w182, false⟩, _, _, S186, .refl _ _, .refl _, (WeakE.cons rfl (.refl _) WeakE.nil), H188.sel [] (by decide) rfl, h⟩
                            ·
                              replace h := if_f hb147 h
                              refine WpC.drawP E.obj hmix [[(5, none)], [(18, none)], [(7, none)], [(11, none)], [(136, some 2), (137, some 3)], [(138, some 4)], [(134, some 0), (135, some 1), (139, some 5)], [(140, some 6)], [(5, none), (141, some 7)], [(142, some 8), (141, some 7)], [(143, some 9), (141, some 7)], [(144, some 10), (141, some 7)], [(141, some 7), (145, some 11)], [(146, some 12)], [(5, none), (147, some 13)], [(18, none), (147, some 13)], [(148, some 14), (149, some 15), (147, some 13)], [(7, none), (147, some 13)], [(11, none), (147, some 13)], [(151, some 17), (152, some 18), (147, some 13)], [(153, some 19), (147, some 13)], [(150, some 16), (154, some 20), (147, some 13)], [(147, some 13), (155, some 21)], [(156, some 22)], [(157, some 23)], [(157, some 23), (158, some 24)], [(159, some 25)]] [(4, some 26)] (by kernel_rfl) [6, 9, 16] (by decide) [some (.ptr b10 0 0), some (.d (.int .i64 x131)), some v35, some (.d (.int .i64 z58)), some (.eptr (.int .i64 z140) 0), some (.d (.int .i64 z140)), none, none, none, none, none, none, none, none, none, none, none, none, none, none, none, none, none, none, none, none, none] ?_
                              refine ⟨[0, 1, 2, 3, 4, 5], by kernel_rfl, ?_, _, _, rfl, rfl, .step ?_⟩
                              ·
                                refine .cons rfl rfl rfl (.step ?_) ?_
                                ·
                                  refine wpO.val rfl (oper_move rfl) rfl ?_
                                  exact wpO.nil ⟨_, _, rfl, fun _ ht => by cases ht; exact ⟨rfl, .refl _⟩⟩
                                refine .cons rfl rfl rfl (.step ?_) ?_
                                ·
                                  refine wpO.val rfl (oper_move rfl) rfl ?_
                                  exact wpO.nil ⟨_, _, rfl, fun _ ht => by cases ht; exact ⟨rfl, .refl _⟩⟩
                                refine .cons rfl rfl rfl (.step ?_) ?_
                                ·
                                  refine wpO.val rfl (oper_move rfl) rfl ?_
                                  exact wpO.nil ⟨_, _, rfl, fun _ ht => by cases ht; exact ⟨rfl, .refl _⟩⟩
                                refine .cons rfl rfl rfl (.step ?_) ?_
                                ·
                                  refine wpO.val rfl (oper_move rfl) rfl ?_
                                  exact wpO.nil ⟨_, _, rfl, fun _ ht => by cases ht; exact ⟨rfl, .refl _⟩⟩
                                refine .cons rfl rfl rfl (.step ?_) ?_
                                ·
                                  refine wpO.val rfl (oper_idx rfl rfl (idxAddr_grow (enc := (D.int .i64)) H130 (i := 0) rfl hzz140 el31 as3 (((fun _ => rfl) _).trans sz3.symm))) rfl ?_
                                  exact wpO.nil ⟨_, _, rfl, fun _ ht => by cases ht; exact ⟨rfl, .refl _⟩⟩
                                refine .cons rfl rfl rfl (.step ?_) ?_
                                ·
                                  refine wpO.val rfl (oper_loadE rfl (partD_one ag3 rfl)) rfl ?_
                                  exact wpO.nil ⟨_, _, rfl, fun _ ht => by cases ht; exact ⟨rfl, .refl _⟩⟩
                                exact .nil
                              refine wpO.retM (ins := [.box b10 [v33, w91], nestA encdom_node dom_node.kids 7 5 v33 ws90 z89.2.l none, slkA w91 z89.2.freed]) (more := [.grow v35 ((x34).map (D.int .i64))]) (H130.sel [1, 2, 3, 0] (by decide) rfl) rfl (oper_callF rfl rfl) (outlet_Hang_ok E n _ _ _ _ hzz141 b10 v33 ws90 w91) (.cons (.refl _) (.cons (.refl _) (.cons (.refl _) .nil))) rfl ?_
                              rintro _ S191 _ ⟨rfl, ws189, w190, rfl⟩ H192
                              replace H192 : Has pureSt S191 [.box b10 [v33, w190], nestA encdom_node dom_node.kids 7 5 v33 ws189 z141.2.l none, slkA w190 z141.2.freed, .grow v35 ((x34).map (D.int .i64))] := H192
                              have H193 : Has pureSt S191 [.grow v35 ((x34).map (D.int .i64)), .box b10 [v33, w190], nestA encdom_node dom_node.kids 7 5 v33 ws189 z141.2.l none, slkA w190 z141.2.freed] := H192.sel [3, 0, 1, 2] (by decide) rfl
                              refine wpO.nil ⟨_, _, _, rfl, (fun _ ht => by cases ht; rfl), [some (.ptr b10 0 0), some (.d (.int .i64 x131)), some v35, some (.d (.int .i64 z58)), some (.eptr (.int .i64 z140) 0), some (.d (.int .i64 z140)), some (.d (.bool z141.1)), some (.d (.bool false)), some (.tup []), none, none, none, none, none, none, none, none, none, none, none, none, none, none, none, none, none, none], (.old (.refl _) (.old (.refl _) (.old (.refl _) (.old (.refl _) (.old (.refl _) (.old (.refl _) (.new (.new (.new (.new (.new (.new (.new (.new (.new (.new (.new (.new (.new (.new (.new (.new (.new (.new (.new (.new (.new .nil))))))))))))))))))))))))))), (fun _ ht => by cases ht; exact ⟨_, rfl, .refl _⟩), ?_⟩
                              refine ⟨[7, 8], by kernel_rfl, ?_, _, _, rfl, rfl, .no rfl ?_⟩
                              ·
                                refine .cons rfl rfl rfl (.step ?_) ?_
                                ·
                                  refine wpO.val rfl (oper_move rfl) rfl ?_
                                  exact wpO.nil ⟨_, _, rfl, fun _ ht => by cases ht; exact ⟨rfl, (.eq (by rw [hb147]))⟩⟩
                                refine .cons rfl rfl rfl (.no rfl (.refl _)) ?_
                                exact .nil
                              refine ⟨[some (.ptr b10 0 0), some (.d (.int .i64 x131)), some v35, some (.d (.int .i64 z58)), some (.eptr (.int .i64 z140) 0), some (.d (.int .i64 z140)), some (.d (.bool z141.1)), some (.d (.bool false)), some (.tup []), some (.tup []), some (.tup []), some (.tup []), some (.d (.bool false)), some (.d (.bool false)), some (.tup []), some (.tup []), none, some (.tup []), some (.tup []), some (.tup []), some (.tup []), none, none, none, none, none, none], (.old (.refl _) (.old (.refl _) (.old (.refl _) (.old (.refl _) (.old (.refl _) (.old (.refl _) (.old (.refl _) (.old (.refl _) (.old (.refl _) (.new (.new (.new (.new (.new (.new (.new (.new (.new (.new (.new (.new (.new (.new (.new (.new (.new (.new .nil))))))))))))))))))))))))))), (fun _ ht => by cases ht; exact ⟨_, rfl, .refl _⟩), ?_⟩
                              refine ⟨[10, 11, 12, 13, 14, 15, 17, 18, 19, 20], by kernel_rfl, ?_, _, _, rfl, rfl, .no rfl ?_⟩
                              ·
                                refine .cons rfl rfl rfl (.no rfl (.refl _)) ?_
                                refine .cons rfl rfl rfl (.no rfl (.refl _)) ?_
                                refine .cons rfl rfl rfl (.step ?_) ?_
                                ·
                                  refine wpO.val rfl (oper_pick (b := false) rfl rfl) rfl ?_
                                  exact wpO.nil ⟨_, _, rfl, fun _ ht => by cases ht; exact ⟨rfl, .refl _⟩⟩
                                refine .cons rfl rfl rfl (.step ?_) ?_
                                ·
                                  refine wpO.val rfl (oper_move rfl) rfl ?_
                                  exact wpO.nil ⟨_, _, rfl, fun _ ht => by cases ht; exact ⟨rfl, .refl _⟩⟩
                                refine .cons rfl rfl rfl (.no rfl (.refl _)) ?_
                                refine .cons rfl rfl rfl (.no rfl (.refl _)) ?_
                                refine .cons rfl rfl rfl (.no rfl (.refl _)) ?_
                                refine .cons rfl rfl rfl (.no rfl (.refl _)) ?_
                                refine .cons rfl rfl rfl (.no rfl (.refl _)) ?_
                                refine .cons rfl rfl rfl (.no rfl (.refl _)) ?_
                                exact .nil
                              refine ⟨[some (.ptr b10 0 0), some (.d (.int .i64 x131)), some v35, some (.d (.int .i64 z58)), some (.eptr (.int .i64 z140) 0), some (.d (.int .i64 z140)), some (.d (.bool z141.1)), some (.d (.bool false)), some (.tup []), some (.tup []), some (.tup []), some (.tup []), some (.d (.bool false)), some (.d (.bool false)), some (.tup []), some (.tup []), some (.tup []), some (.tup []), some (.tup []), some (.tup []), some (.tup []), some (.tup []), some (.d (.bool false)), some (.d (.bool false)), some (.tup []), some (.d (.bool false)), some (.d (.bool false))], (.old (.refl _) (.old (.refl _) (.old (.refl _) (.old (.refl _) (.old (.refl _) (.old (.refl _) (.old (.refl _) (.old (.refl _) (.old (.refl _) (.old (.refl _) (.old (.refl _) (.old (.refl _) (.old (.refl _) (.old (.refl _) (.old (.refl _) (.old (.refl _) (.new (.old (.refl _) (.old (.refl _) (.old (.refl _) (.old (.refl _) (.new (.new (.new (.new (.new (.new .nil))))))))))))))))))))))))))), (fun _ ht => by cases ht; exact ⟨_, rfl, .refl _⟩), ?_⟩
                              refine ⟨[17, 18, 19, 20, 21, 22, 23, 24, 25, 26], by kernel_rfl, ?_, _, rfl, ?_⟩
                              ·
                                refine .cons rfl rfl rfl (.no rfl (.refl _)) ?_
                                refine .cons rfl rfl rfl (.no rfl (.refl _)) ?_
                                refine .cons rfl rfl rfl (.no rfl (.refl _)) ?_
                                refine .cons rfl rfl rfl (.no rfl (.refl _)) ?_
                                refine .cons rfl rfl rfl (.no rfl (.refl _)) ?_
                                refine .cons rfl rfl rfl (.step ?_) ?_
                                ·
                                  refine wpO.val rfl (oper_pick (b := false) rfl rfl) rfl ?_
                                  exact wpO.nil ⟨_, _, rfl, fun _ ht => by cases ht; exact ⟨rfl, .refl _⟩⟩
                                refine .cons rfl rfl rfl (.step ?_) ?_
                                ·
                                  refine wpO.val rfl (oper_move rfl) rfl ?_
                                  exact wpO.nil ⟨_, _, rfl, fun _ ht => by cases ht; exact ⟨rfl, .refl _⟩⟩
                                refine .cons rfl rfl rfl (.no rfl (.refl _)) ?_
                                refine .cons rfl rfl rfl (.step ?_) ?_
                                ·
                                  refine wpO.val rfl (oper_pick (b := false) rfl rfl) rfl ?_
                                  exact wpO.nil ⟨_, _, rfl, fun _ ht => by cases ht; exact ⟨rfl, .refl _⟩⟩
                                refine .cons rfl rfl rfl (.step ?_) ?_
                                ·
                                  refine wpO.val rfl (oper_assign rfl) rfl ?_
                                  exact wpO.nil ⟨_, _, rfl, fun _ ht => by cases ht; exact ⟨rfl, .refl _⟩⟩
                                exact .nil
                              exact ⟨⟨z141.2, ws189, w190, false⟩, _, _, S191, .refl _ _, .refl _, (WeakE.cons rfl (.refl _) WeakE.nil), H193.sel [] (by decide) rfl, h⟩
                        ·
                          refine WpC.seq ?_
                          refine WpC.region E.obj rfl ?_
                          refine wpO.val rfl (oper_move rfl) rfl ?_
                          refine wpO.val rfl (oper_bin rfl rfl binD_gtr) rfl ?_
                          refine wpO.nil ?_
                          refine WpC.cond rfl (fun hb194 => ?_) (fun hb194 => ?_)
                          ·
                            replace h := if_t hb194 h
                            refine WpC.region E.obj rfl ?_
                            refine wpO.val rfl (oper_move rfl) rfl ?_
                            refine wpO.val rfl (oper_move rfl) rfl ?_
                            refine wpO.val rfl (oper_bin rfl rfl binD_sub) rfl ?_
                            obtain ⟨z195, hzz195, h⟩ := bind_some h
                            refine wpO.val rfl (oper_idx rfl rfl (idxAddr_grow (enc := (D.int .i64)) H112 (i := 0) rfl hzz195 el31 as3 (((fun _ => rfl) _).trans sz3.symm))) rfl ?_
                            refine wpO.val rfl (oper_loadE rfl (partD_one ag3 rfl)) rfl ?_
                            refine wpO.val rfl (oper_assign rfl) rfl ?_
                            refine wpO.nil ?_
                            exact ⟨z195, _, _, S111, .refl _ _, .refl _, (WeakE.cons rfl (.refl _) (WeakE.cons rfl (.refl _) (WeakE.cons rfl (.refl _) (WeakE.cons rfl (.refl _) WeakE.nil)))), H112.sel [0, 1, 2, 3] (by decide) rfl, h⟩
                          ·
                            replace h := if_f hb194 h
                            refine WpC.skip ?_
                            exact ⟨1, _, _, S111, .refl _ _, .refl _, (WeakE.cons rfl (.refl _) (WeakE.cons rfl (.refl _) (WeakE.cons rfl (.refl _) (WeakE.cons rfl (.refl _) WeakE.nil)))), H112.sel [0, 1, 2, 3] (by decide) rfl, h⟩
end
end Pr
end Go.Ev


namespace Go.Ev
namespace Pr
set_option linter.unusedVariables false
set_option linter.unusedSimpArgs false

/-! ### Laws of what the functions are made of -/
theorem w64 {n : Int} (h0 : -9223372036854775808 ≤ n) (h1 : n ≤ 9223372036854775807) : IntKind.wrap .i64 n = n := Go.IntWalk.i64_in n ⟨h0, h1⟩
theorem remI_ok {k : IntKind} {a b : Int} (h : b ≠ 0) : remI k a b = some (a.tmod b) := by
  unfold remI; rw [if_neg h]
end Pr
end Go.Ev


namespace Go.Ev
namespace Pr
set_option linter.unusedVariables false
set_option linter.unusedSimpArgs false
set_option maxRecDepth 20000

/-! ### OutletDeep: what is handed in counts only by what it is brought to -/
theorem within_ok (n : Nat) (a lo hi : Int) (h1 : lo ≤ hi) (h2 : -1000000000000 ≤ lo) (h3 : hi ≤ 1000000000000000) : ∃ r, porticobook_Within n a lo hi = some r ∧ lo ≤ r ∧ r ≤ hi := by
  unfold porticobook_Within
  rw [w64 (n := hi - lo) (by omega) (by omega), w64 (by omega) (by omega), remI_ok (by omega), Option.bind_some]
  have k1 := Int.tmod_lt_of_pos a (show 0 < hi - lo + 1 by omega)
  have k2 := Int.lt_tmod_of_pos a (show 0 < hi - lo + 1 by omega)
  unfold porticobook_Within_j8
  by_cases hz : a.tmod (hi - lo + 1) < 0
  · rw [if_pos (by simpa using hz)]
    rw [w64 (n := a.tmod (hi - lo + 1) + hi) (by omega) (by omega), w64 (n := a.tmod (hi - lo + 1) + hi - lo) (by omega) (by omega), w64 (n := a.tmod (hi - lo + 1) + hi - lo + 1) (by omega) (by omega), w64 (by omega) (by omega)]
    exact ⟨_, rfl, by omega, by omega⟩
  · rw [if_neg (by simpa using hz), w64 (by omega) (by omega)]
    exact ⟨_, rfl, by omega, by omega⟩
theorem deep_l38 (n : Nat) (a b z : Int) (h : porticobook_Within n a 0 (IntKind.wrap .i64 (z - 1)) = porticobook_Within n b 0 (IntKind.wrap .i64 (z - 1))) : ∀ k x ids up i, porticolaw20_OutletDeep_l38 n a z k x ids up i = porticolaw20_OutletDeep_l38 n b z k x ids up i
  | 0, _, _, _, _ => rfl
  | k + 1, x, ids, up, i => by
    rw [porticolaw20_OutletDeep_l38, porticolaw20_OutletDeep_l38, h]
    simp only [deep_l38 n a b z h k]
theorem deep_congr (n : Nat) (a1 b1 a2 b2 z : Int) (h1 : porticobook_Within n a1 1 6 = some z) (h2 : porticobook_Within n b1 1 6 = some z) (h : porticobook_Within n a2 0 (IntKind.wrap .i64 (z - 1)) = porticobook_Within n b2 0 (IntKind.wrap .i64 (z - 1))) : porticolaw20_OutletDeep n a1 a2 = porticolaw20_OutletDeep n b1 b2 := by
  unfold porticolaw20_OutletDeep
  rw [h1, h2]
  simp only [Option.bind_some, deep_l38 n a2 b2 z h]
def deepAll : Bool := (List.range 6).all fun k => (List.range (k + 1)).all fun c => porticobook_Within 1000 (k : Int) 1 6 == some ((k : Int) + 1) && porticobook_Within 1000 (c : Int) 0 (IntKind.wrap .i64 ((k : Int) + 1 - 1)) == some (c : Int) && porticolaw20_OutletDeep 1000 (k : Int) (c : Int) == some true
theorem deepAll_ok : deepAll = true := by decide +kernel
theorem outletDeep_ok (a1 a2 : Int) : porticolaw20_OutletDeep 1000 a1 a2 = some true := by
  obtain ⟨z, h1, h2, h3⟩ := within_ok 1000 a1 1 6 (by omega) (by omega) (by omega)
  obtain ⟨c, g1, g2, g3⟩ := within_ok 1000 a2 0 (IntKind.wrap .i64 (z - 1)) (by rw [w64 (by omega) (by omega)]; omega) (by omega) (by rw [w64 (by omega) (by omega)]; omega)
  have all := deepAll_ok
  unfold deepAll at all
  rw [List.all_eq_true] at all
  obtain ⟨k, rfl⟩ : ∃ k : Nat, z = (k : Int) + 1 := ⟨(z - 1).toNat, by omega⟩
  obtain ⟨c, rfl⟩ : ∃ c' : Nat, c = (c' : Int) := ⟨c.toNat, by omega⟩
  have hk := all k (List.mem_range.2 (by omega))
  rw [List.all_eq_true] at hk
  rw [w64 (by omega) (by omega)] at g3
  have hc := hk c (List.mem_range.2 (by omega))
  simp only [Bool.and_eq_true, beq_iff_eq] at hc
  obtain ⟨⟨q1, q2⟩, q3⟩ := hc
  rw [← q3]
  exact deep_congr 1000 a1 k a2 c _ h1 q1 (by rw [g1, q2])
end Pr
end Go.Ev


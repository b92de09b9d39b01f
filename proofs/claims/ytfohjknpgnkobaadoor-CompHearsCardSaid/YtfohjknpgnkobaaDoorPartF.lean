import Derived.Test.YtfohjknpgnkobaaDoorPartE
import Derived.IntWalk
namespace Go.Ev
namespace Pr
set_option linter.unusedVariables false
set_option linter.unusedSimpArgs false
open Go.Proofs
section
variable {R : ObjR} (E : PrOk R)
include E
set_option maxRecDepth 20000 in
set_option maxHeartbeats 4000000 in
theorem porticokeep_Sheet_Tpl_ok (n : Nat) (a1 : K_Sheet) (r : Tpl) (h : porticokeep_Sheet_Tpl n a1 = some r) : SpecC R cfg.P 19 [(encK_Sheet a1)] (.d (encTpl r)) := by
  unfold porticokeep_Sheet_Tpl at h
  refine SpecC.of_wp E.obj.toObjOk (C := cfg) Tryd.func19 rfl nm19 rfl ?_
  have H0 : Has pureSt pureSt [] := Has.pure
  refine WpC.seq ?_
  refine WpC.region E.obj rfl ?_
  refine wpO.box H0 rfl rfl rfl (K_Sheet.cellsA _) rfl (fun b2 S3 H4 => ?_)
  refine wpO.alloc H4 rfl ob26 zo26 rfl rfl (fun b5 S6 H7 => ?_)
  refine wpO.nil ?_
  refine WpC.seq ?_
  refine WpC.region E.obj rfl ?_
  refine wpO.val rfl (oper_buildSlice (vs := [(.d (.str [100, 105, 118])), (.d (.str [112])), (.d (.str [108, 105])), (.d (.str [98]))]) (ds := [(.str [100, 105, 118]), (.str [112]), (.str [108, 105]), (.str [98])]) rw45 el45 ag9 zo9 sz9 rfl (by decide) (.cons rfl rfl (.cons rfl rfl (.cons rfl rfl (.cons rfl rfl .nil)))) rfl (by intro d hd; simp only [List.mem_cons, List.not_mem_nil, or_false] at hd; rcases hd with rfl | rfl | rfl | rfl <;> rfl) rfl) rfl ?_
  refine wpO.val rfl (oper_assign rfl) rfl ?_
  refine wpO.nil ?_
  refine WpC.seq ?_
  refine WpC.region E.obj rfl ?_
  refine wpO.val rfl (oper_buildSlice (vs := [(.d (.str [105, 100])), (.d (.str [112, 97])), (.d (.str [112, 98])), (.d (.str [108, 97, 115, 116]))]) (ds := [(.str [105, 100]), (.str [112, 97]), (.str [112, 98]), (.str [108, 97, 115, 116])]) rw45 el45 ag9 zo9 sz9 rfl (by decide) (.cons rfl rfl (.cons rfl rfl (.cons rfl rfl (.cons rfl rfl .nil)))) rfl (by intro d hd; simp only [List.mem_cons, List.not_mem_nil, or_false] at hd; rcases hd with rfl | rfl | rfl | rfl <;> rfl) rfl) rfl ?_
  refine wpO.val rfl (oper_assign rfl) rfl ?_
  refine wpO.nil ?_
  refine WpC.seq ?_
  refine WpC.region E.obj rfl ?_
  obtain ⟨z8, hzz8, h⟩ := bind_some h
  refine wpO.ret rfl (oper_callF rfl rfl) (porticokeep_Words_ok E _  _ hzz8 _ _ .nil) rfl ?_
  refine wpO.val rfl (oper_assign rfl) rfl ?_
  refine wpO.nil ?_
  refine WpC.seq ?_
  refine WpC.region E.obj rfl ?_
  refine wpO.val rfl (oper_build (cs := [(.d (.int .i64 1)), (.d (.int .i64 0)), (.d (.str [109, 97, 105, 110])), (.d (.str [])), (.d .nils), (.d .nils)]) zo26 rfl (place_struct26) (fill1 rfl rfl rfl rfl (fill1 rfl rfl rfl rfl rfl))) rfl ?_
  refine wpO.less (Less.agg' (d := encTpl0 (Tpl0.mk 1 0 [109, 97, 105, 110] [] [])) (CellsC.eq rfl (CellsC.eq rfl (CellsC.eq rfl (CellsC.eq rfl (CellsC.consW rfl (.nils false) rfl rfl (CellsC.eq rfl .nil)))))) ((Tpl0.eq _).trans rfl)) ?_
  refine wpO.val rfl (oper_buildSlice (vs := [(.d (encTpl0 (Tpl0.mk 1 0 [109, 97, 105, 110] [] [])))]) (ds := [(encTpl0 (Tpl0.mk 1 0 [109, 97, 105, 110] [] []))]) rw24 el24 ag26 zo26 sz26 rfl (by decide) (.cons rfl (Tpl0.len _) .nil) rfl (by intro d hd; simp only [List.mem_cons, List.not_mem_nil, or_false] at hd; rcases hd with rfl <;> exact Tpl0.agg _) rfl) rfl ?_
  refine wpO.val rfl (oper_assign rfl) rfl ?_
  refine wpO.nil ?_
  refine WpC.seq ?_
  refine WpC.region E.obj rfl ?_
  refine wpO.val rfl (oper_buildSlice (vs := [(.d (.int .i64 (-1)))]) (ds := [(.int .i64 (-1))]) rw27 el27 ag3 zo3 sz3 rfl (by decide) (.cons rfl rfl .nil) rfl (by intro d hd; simp only [List.mem_cons, List.not_mem_nil, or_false] at hd; rcases hd with rfl <;> rfl) rfl) rfl ?_
  refine wpO.val rfl (oper_assign rfl) rfl ?_
  refine wpO.nil ?_
  refine WpC.seq ?_
  refine WpC.seq ?_
  refine WpC.region E.obj rfl ?_
  refine wpO.val rfl (oper_assign rfl) rfl ?_
  refine wpO.nil ?_
  refine WpC.block ?_
  have H97 := H7.tightG (([(Tpl0.mk 1 0 [109, 97, 105, 110] [] [])]).map encTpl0)
  have H98 := H97.tightG (([(-1)]).map (D.int .i64))
  refine WpL.start (B := pureSt) (α := (List Tpl0) × AV × (List Int) × AV × Int) (fun k a => porticokeep_Sheet_Tpl_l25 n a1 z8 k a.1 a.2.2.1 a.2.2.2.2 = some r) (fun a => [(1, (.ptr b2 0 0)), (2, (.ptr b5 0 0)), (3, (.d (.sl (([[100, 105, 118], [112], [108, 105], [98]]).map D.str) true))), (4, (.d (.sl (([[105, 100], [112, 97], [112, 98], [108, 97, 115, 116]]).map D.str) true))), (5, (.d (.sl ((z8).map D.str) false))), (6, a.2.1), (7, a.2.2.2.1), (8, (.d (.int .i64 a.2.2.2.2)))]) (fun a => [.box b5 [(.d (.int .i64 0)), (.d (.int .i64 0)), (.d (.str [])), (.d (.str [])), (.d .nils), (.d .nils)], .box b2 [(.d (.sl ((a1.Under).map (D.int .i64)) false)), (.d (.sl ((a1.Kinds).map (D.int .i64)) false)), (.d (.sl ((a1.Ns).map (D.int .i64)) false)), (.d (.sl ((a1.Texts).map (D.int .i64)) false))], .grow a.2.1 ((a.1).map encTpl0), .grow a.2.2.2.1 ((a.2.2.1).map (D.int .i64))]) ?_ ?_ n ⟨⟨[(Tpl0.mk 1 0 [109, 97, 105, 110] [] [])], (.d (.sl (([(Tpl0.mk 1 0 [109, 97, 105, 110] [] [])]).map encTpl0) true)), [(-1)], (.d (.sl (([(-1)]).map (D.int .i64)) true)), 0⟩, _, _, S6, .refl _ _, .refl _, (WeakE.cons rfl (.refl _) (WeakE.cons rfl (.refl _) (WeakE.cons rfl (.refl _) (WeakE.cons rfl (.refl _) (WeakE.cons rfl (.refl _) (WeakE.cons rfl (.refl _) (WeakE.cons rfl (.refl _) (WeakE.cons rfl (.refl _) WeakE.nil)))))))), H98.sel [2, 3, 1, 0] (by decide) rfl, h⟩
  · intro a h; simp [porticokeep_Sheet_Tpl_l25] at h
  ·
    intro k25 a S18 H19 h
    obtain ⟨x20, v21, x22, v23, x24⟩ := a
    replace h : porticokeep_Sheet_Tpl_l25 n a1 z8 (k25 + 1) x20 x22 x24 = some r := h
    replace H19 : Has pureSt S18 [.box b5 [(.d (.int .i64 0)), (.d (.int .i64 0)), (.d (.str [])), (.d (.str [])), (.d .nils), (.d .nils)], .box b2 [(.d (.sl ((a1.Under).map (D.int .i64)) false)), (.d (.sl ((a1.Kinds).map (D.int .i64)) false)), (.d (.sl ((a1.Ns).map (D.int .i64)) false)), (.d (.sl ((a1.Texts).map (D.int .i64)) false))], .grow v21 ((x20).map encTpl0), .grow v23 ((x22).map (D.int .i64))] := H19
    unfold porticokeep_Sheet_Tpl_l25 at h
    refine WpC.seq ?_
    refine WpC.seq ?_
    refine WpC.region E.obj rfl ?_
    refine wpO.val rfl (oper_move rfl) rfl ?_
    refine wpO.val rfl (oper_fieldAddr rfl fo42_0 nz27 rfl) rfl ?_
    refine wpO.val rfl (oper_load H19 (i := 1) rfl rfl (part_one ag27 rfl)) rfl ?_
    refine wpO.val rfl (oper_lenL rfl es27) rfl ?_
    refine wpO.val rfl (oper_bin rfl rfl binD_lss) rfl ?_
    refine wpO.val rfl (oper_move rfl) rfl ?_
    refine wpO.groupV 3 27 (.d (.bool ((decide (x24 < ((a1.Under).length : Int))) && (decide (x24 < 11))))) ?_ ?_
    ·
      rcases Bool.eq_false_or_eq_true ((decide (x24 < ((a1.Under).length : Int)))) with hB26 | hB26
      ·
        refine wpO.bool hB26 ?_
        refine wpO.val rfl (oper_move rfl) rfl ?_
        refine wpO.val rfl (oper_bin rfl rfl binD_lss) rfl ?_
        refine wpO.val rfl (oper_pick (b := true) rfl rfl) rfl ?_
        exact wpO.nil ⟨_, rfl, (WeakE.put (WeakE.push rfl (WeakE.push rfl (WeakE.put (.refl _) (Less.eq (by rw [hB26]))))) (Less.eq (by rw [hB26]; rw [Bool.true_and])))⟩
      ·
        refine wpO.bool hB26 ?_
        refine wpO.no rfl rfl ?_
        refine wpO.no rfl rfl ?_
        refine wpO.val rfl (oper_pick (b := false) rfl rfl) rfl ?_
        exact wpO.nil ⟨_, rfl, (WeakE.put (WeakE.push rfl (WeakE.push rfl (WeakE.put (.refl _) (Less.eq (by rw [hB26]))))) (Less.eq (by rw [hB26]; rw [Bool.false_and])))⟩
    ·
      refine wpO.nil ?_
      refine WpC.cond rfl (fun hb27 => ?_) (fun hb27 => ?_)
      ·
        replace h := if_t hb27 h
        refine WpC.skip ?_
        refine WpC.seq ?_
        refine WpC.block ?_
        refine WpC.seq ?_
        refine WpC.region E.obj rfl ?_
        refine wpO.val rfl (oper_fieldAddr rfl fo42_0 nz27 rfl) rfl ?_
        refine wpO.val rfl (oper_load H19 (i := 1) rfl rfl (part_one ag27 rfl)) rfl ?_
        refine wpO.val rfl (oper_move rfl) rfl ?_
        obtain ⟨z28, hzz28, h⟩ := bind_some h
        refine wpO.val rfl (oper_idx rfl rfl (idxAddr (enc := (D.int .i64)) hzz28 el27 as3 (((fun _ => rfl) _).trans sz3.symm))) rfl ?_
        refine wpO.val rfl (oper_loadE rfl (partD_one ag3 rfl)) rfl ?_
        refine wpO.val rfl (oper_move rfl) rfl ?_
        refine wpO.val rfl (oper_lenG H19 (i := 2) rfl rfl es24) rfl ?_
        refine wpO.val rfl (oper_bin rfl rfl binD_sub) rfl ?_
        obtain ⟨z29, hzz29, h⟩ := bind_some h
        refine wpO.ret rfl (oper_callF rfl rfl) (porticobook_Within_ok E _ _ _ _ _ hzz29 _ _ (ArgsC.eq (ArgsC.eq (ArgsC.eq .nil)))) rfl ?_
        refine wpO.val rfl (oper_assign rfl) rfl ?_
        refine wpO.nil ?_
        refine WpC.join (B := pureSt) (α := Int) (fun a => porticokeep_Sheet_Tpl_j33 n a1 z8 x20 x22 x24 (porticokeep_Sheet_Tpl_l25 n a1 z8 k25) a = some r) (fun a => [(1, (.ptr b2 0 0)), (2, (.ptr b5 0 0)), (3, (.d (.sl (([[100, 105, 118], [112], [108, 105], [98]]).map D.str) true))), (4, (.d (.sl (([[105, 100], [112, 97], [112, 98], [108, 97, 115, 116]]).map D.str) true))), (5, (.d (.sl ((z8).map D.str) false))), (6, v21), (7, v23), (8, (.d (.int .i64 x24))), (9, (.d (.int .i64 a)))]) (fun a => [.box b5 [(.d (.int .i64 0)), (.d (.int .i64 0)), (.d (.str [])), (.d (.str [])), (.d .nils), (.d .nils)], .box b2 [(.d (.sl ((a1.Under).map (D.int .i64)) false)), (.d (.sl ((a1.Kinds).map (D.int .i64)) false)), (.d (.sl ((a1.Ns).map (D.int .i64)) false)), (.d (.sl ((a1.Texts).map (D.int .i64)) false))], .grow v21 ((x20).map encTpl0), .grow v23 ((x22).map (D.int .i64))]) ?_ ?_
        ·
          intro x32 S30 H31 h
          replace h : porticokeep_Sheet_Tpl_j33 n a1 z8 x20 x22 x24 (porticokeep_Sheet_Tpl_l25 n a1 z8 k25) x32 = some r := h
          replace H31 : Has pureSt S30 [.box b5 [(.d (.int .i64 0)), (.d (.int .i64 0)), (.d (.str [])), (.d (.str [])), (.d .nils), (.d .nils)], .box b2 [(.d (.sl ((a1.Under).map (D.int .i64)) false)), (.d (.sl ((a1.Kinds).map (D.int .i64)) false)), (.d (.sl ((a1.Ns).map (D.int .i64)) false)), (.d (.sl ((a1.Texts).map (D.int .i64)) false))], .grow v21 ((x20).map encTpl0), .grow v23 ((x22).map (D.int .i64))] := H31
          unfold porticokeep_Sheet_Tpl_j33 at h
          refine WpC.seq ?_
          obtain ⟨z34, hzz34, h⟩ := bind_some h
          obtain ⟨z35, hzz35, h⟩ := bind_some h
          obtain ⟨z36, hzz36, h⟩ := bind_some h
          obtain ⟨z37, hzz37, h⟩ := bind_some h
          refine WpC.drawP E.obj hmix [[(1, none)], [(60, some 0)], [(8, none)], [(61, some 1), (62, some 2)], [(63, some 3)], [(1, none)], [(65, some 5)], [(8, none)], [(66, some 6), (67, some 7)], [(68, some 8)], [(64, some 4), (69, some 9)], [], [(11, some 11), (70, some 10)]] [(1, none), (2, none), (3, none), (4, none), (5, none), (6, none), (7, none), (8, none), (9, none), (11, some 11)] (by kernel_rfl) [11, 12] (by decide) [some (.ptr b2 0 1), some (.d (.sl ((a1.Kinds).map (D.int .i64)) false)), some (.d (.int .i64 x24)), some (.d (.int .i64 z34)), some (.d (.int .i64 z35)), some (.ptr b2 0 2), some (.d (.sl ((a1.Ns).map (D.int .i64)) false)), some (.d (.int .i64 x24)), some (.d (.int .i64 z36)), some (.d (.int .i64 z37)), some (.d (encTpl0 (Tpl0.mk z35 z37 [] [] []))), none, none] ?_
          refine ⟨[0, 1, 2, 3, 4, 5, 6, 7, 8, 9, 10], by kernel_rfl, ?_, _, _, rfl, rfl, .step ?_⟩
          ·
            refine .cons rfl rfl rfl (.step ?_) ?_
            ·
              refine wpO.val rfl (oper_fieldAddr rfl fo42_1 nz27 rfl) rfl ?_
              exact wpO.nil ⟨_, _, rfl, fun _ ht => by cases ht; exact ⟨rfl, .refl _⟩⟩
            refine .cons rfl rfl rfl (.step ?_) ?_
            ·
              refine wpO.val rfl (oper_load H31 (i := 1) rfl rfl (part_one ag27 rfl)) rfl ?_
              exact wpO.nil ⟨_, _, rfl, fun _ ht => by cases ht; exact ⟨rfl, .refl _⟩⟩
            refine .cons rfl rfl rfl (.step ?_) ?_
            ·
              refine wpO.val rfl (oper_move rfl) rfl ?_
              exact wpO.nil ⟨_, _, rfl, fun _ ht => by cases ht; exact ⟨rfl, .refl _⟩⟩
            refine .cons rfl rfl rfl (.step ?_) ?_
            ·
              refine wpO.ret rfl (oper_callF rfl rfl) (porticokeep_pick_ok E _ _ _ _ hzz34 _ _ (ArgsC.eq (ArgsC.eq .nil))) rfl ?_
              exact wpO.nil ⟨_, _, rfl, fun _ ht => by cases ht; exact ⟨rfl, .refl _⟩⟩
            refine .cons rfl rfl rfl (.step ?_) ?_
            ·
              refine wpO.ret rfl (oper_callF rfl rfl) (porticobook_Within_ok E _ _ _ _ _ hzz35 _ _ (ArgsC.eq (ArgsC.eq (ArgsC.eq .nil)))) rfl ?_
              exact wpO.nil ⟨_, _, rfl, fun _ ht => by cases ht; exact ⟨rfl, .refl _⟩⟩
            refine .cons rfl rfl rfl (.step ?_) ?_
            ·
              refine wpO.val rfl (oper_fieldAddr rfl fo42_2 nz27 rfl) rfl ?_
              exact wpO.nil ⟨_, _, rfl, fun _ ht => by cases ht; exact ⟨rfl, .refl _⟩⟩
            refine .cons rfl rfl rfl (.step ?_) ?_
            ·
              refine wpO.val rfl (oper_load H31 (i := 1) rfl rfl (part_one ag27 rfl)) rfl ?_
              exact wpO.nil ⟨_, _, rfl, fun _ ht => by cases ht; exact ⟨rfl, .refl _⟩⟩
            refine .cons rfl rfl rfl (.step ?_) ?_
            ·
              refine wpO.val rfl (oper_move rfl) rfl ?_
              exact wpO.nil ⟨_, _, rfl, fun _ ht => by cases ht; exact ⟨rfl, .refl _⟩⟩
            refine .cons rfl rfl rfl (.step ?_) ?_
            ·
              refine wpO.ret rfl (oper_callF rfl rfl) (porticokeep_pick_ok E _ _ _ _ hzz36 _ _ (ArgsC.eq (ArgsC.eq .nil))) rfl ?_
              exact wpO.nil ⟨_, _, rfl, fun _ ht => by cases ht; exact ⟨rfl, .refl _⟩⟩
            refine .cons rfl rfl rfl (.step ?_) ?_
            ·
              refine wpO.ret rfl (oper_callF rfl rfl) (porticobook_Within_ok E _ _ _ _ _ hzz37 _ _ (ArgsC.eq (ArgsC.eq (ArgsC.eq .nil)))) rfl ?_
              exact wpO.nil ⟨_, _, rfl, fun _ ht => by cases ht; exact ⟨rfl, .refl _⟩⟩
            refine .cons rfl rfl rfl (.step ?_) ?_
            ·
              refine wpO.val rfl (oper_build (cs := [(.d (.int .i64 z35)), (.d (.int .i64 z37)), (.d (.str [])), (.d (.str [])), (.d .nils), (.d .nils)]) zo26 rfl (place_struct26) (fill1 rfl rfl rfl rfl (fill1 rfl rfl rfl rfl rfl))) rfl ?_
              refine wpO.less (Less.agg' (d := encTpl0 (Tpl0.mk z35 z37 [] [] [])) (CellsC.eq rfl (CellsC.eq rfl (CellsC.eq rfl (CellsC.eq rfl (CellsC.consW rfl (.nils false) rfl rfl (CellsC.eq rfl .nil)))))) ((Tpl0.eq _).trans rfl)) ?_
              exact wpO.nil ⟨_, _, rfl, fun _ ht => by cases ht; exact ⟨rfl, .refl _⟩⟩
            exact .nil
          refine wpO.alloc H31 rfl ob26 zo26 rfl rfl (fun b43 S44 H45 => ?_)
          refine wpO.nil ⟨_, _, _, rfl, (fun _ ht => by cases ht; rfl), [some (.ptr b2 0 1), some (.d (.sl ((a1.Kinds).map (D.int .i64)) false)), some (.d (.int .i64 x24)), some (.d (.int .i64 z34)), some (.d (.int .i64 z35)), some (.ptr b2 0 2), some (.d (.sl ((a1.Ns).map (D.int .i64)) false)), some (.d (.int .i64 x24)), some (.d (.int .i64 z36)), some (.d (.int .i64 z37)), some (.d (encTpl0 (Tpl0.mk z35 z37 [] [] []))), some (.ptr b43 0 0), none], (.old (.refl _) (.old (.refl _) (.old (.refl _) (.old (.refl _) (.old (.refl _) (.old (.refl _) (.old (.refl _) (.old (.refl _) (.old (.refl _) (.old (.refl _) (.old (.refl _) (.new (.new .nil))))))))))))), (fun _ ht => by cases ht; exact ⟨_, rfl, .refl _⟩), ?_⟩
          refine ⟨[0, 1, 2, 3, 4, 5, 6, 7, 8, 9, 10], by kernel_rfl, ?_, _, _, rfl, rfl, .step ?_⟩
          ·
            refine .cons rfl rfl rfl (.step ?_) ?_
            ·
              refine wpO.val rfl (oper_fieldAddr rfl fo42_1 nz27 rfl) rfl ?_
              exact wpO.nil ⟨_, _, rfl, fun _ ht => by cases ht; exact ⟨rfl, .refl _⟩⟩
            refine .cons rfl rfl rfl (.step ?_) ?_
            ·
              refine wpO.val rfl (oper_load H45 (i := 2) rfl rfl (part_one ag27 rfl)) rfl ?_
              exact wpO.nil ⟨_, _, rfl, fun _ ht => by cases ht; exact ⟨rfl, .refl _⟩⟩
            refine .cons rfl rfl rfl (.step ?_) ?_
            ·
              refine wpO.val rfl (oper_move rfl) rfl ?_
              exact wpO.nil ⟨_, _, rfl, fun _ ht => by cases ht; exact ⟨rfl, .refl _⟩⟩
            refine .cons rfl rfl rfl (.step ?_) ?_
            ·
              refine wpO.ret rfl (oper_callF rfl rfl) (porticokeep_pick_ok E _ _ _ _ hzz34 _ _ (ArgsC.eq (ArgsC.eq .nil))) rfl ?_
              exact wpO.nil ⟨_, _, rfl, fun _ ht => by cases ht; exact ⟨rfl, .refl _⟩⟩
            refine .cons rfl rfl rfl (.step ?_) ?_
            ·
              refine wpO.ret rfl (oper_callF rfl rfl) (porticobook_Within_ok E _ _ _ _ _ hzz35 _ _ (ArgsC.eq (ArgsC.eq (ArgsC.eq .nil)))) rfl ?_
              exact wpO.nil ⟨_, _, rfl, fun _ ht => by cases ht; exact ⟨rfl, .refl _⟩⟩
            refine .cons rfl rfl rfl (.step ?_) ?_
            ·
              refine wpO.val rfl (oper_fieldAddr rfl fo42_2 nz27 rfl) rfl ?_
              exact wpO.nil ⟨_, _, rfl, fun _ ht => by cases ht; exact ⟨rfl, .refl _⟩⟩
            refine .cons rfl rfl rfl (.step ?_) ?_
            ·
              refine wpO.val rfl (oper_load H45 (i := 2) rfl rfl (part_one ag27 rfl)) rfl ?_
              exact wpO.nil ⟨_, _, rfl, fun _ ht => by cases ht; exact ⟨rfl, .refl _⟩⟩
            refine .cons rfl rfl rfl (.step ?_) ?_
            ·
              refine wpO.val rfl (oper_move rfl) rfl ?_
              exact wpO.nil ⟨_, _, rfl, fun _ ht => by cases ht; exact ⟨rfl, .refl _⟩⟩
            refine .cons rfl rfl rfl (.step ?_) ?_
            ·
              refine wpO.ret rfl (oper_callF rfl rfl) (porticokeep_pick_ok E _ _ _ _ hzz36 _ _ (ArgsC.eq (ArgsC.eq .nil))) rfl ?_
              exact wpO.nil ⟨_, _, rfl, fun _ ht => by cases ht; exact ⟨rfl, .refl _⟩⟩
            refine .cons rfl rfl rfl (.step ?_) ?_
            ·
              refine wpO.ret rfl (oper_callF rfl rfl) (porticobook_Within_ok E _ _ _ _ _ hzz37 _ _ (ArgsC.eq (ArgsC.eq (ArgsC.eq .nil)))) rfl ?_
              exact wpO.nil ⟨_, _, rfl, fun _ ht => by cases ht; exact ⟨rfl, .refl _⟩⟩
            refine .cons rfl rfl rfl (.step ?_) ?_
            ·
              refine wpO.val rfl (oper_build (cs := [(.d (.int .i64 z35)), (.d (.int .i64 z37)), (.d (.str [])), (.d (.str [])), (.d .nils), (.d .nils)]) zo26 rfl (place_struct26) (fill1 rfl rfl rfl rfl (fill1 rfl rfl rfl rfl rfl))) rfl ?_
              refine wpO.less (Less.agg' (d := encTpl0 (Tpl0.mk z35 z37 [] [] [])) (CellsC.eq rfl (CellsC.eq rfl (CellsC.eq rfl (CellsC.eq rfl (CellsC.consW rfl (.nils false) rfl rfl (CellsC.eq rfl .nil)))))) ((Tpl0.eq _).trans rfl)) ?_
              exact wpO.nil ⟨_, _, rfl, fun _ ht => by cases ht; exact ⟨rfl, .refl _⟩⟩
            exact .nil
          refine wpO.store H45 (i := 0) rfl rfl rfl rfl (Tpl0.cellsA _) rfl sz26 rfl as26 rfl rfl rfl (fun S46 H47 => ?_)
          refine wpO.nil ⟨_, .any, _, rfl, (fun _ ht => by cases ht), [some (.ptr b2 0 1), some (.d (.sl ((a1.Kinds).map (D.int .i64)) false)), some (.d (.int .i64 x24)), some (.d (.int .i64 z34)), some (.d (.int .i64 z35)), some (.ptr b2 0 2), some (.d (.sl ((a1.Ns).map (D.int .i64)) false)), some (.d (.int .i64 x24)), some (.d (.int .i64 z36)), some (.d (.int .i64 z37)), some (.d (encTpl0 (Tpl0.mk z35 z37 [] [] []))), some (.ptr b43 0 0), some .any], (.old (.refl _) (.old (.refl _) (.old (.refl _) (.old (.refl _) (.old (.refl _) (.old (.refl _) (.old (.refl _) (.old (.refl _) (.old (.refl _) (.old (.refl _) (.old (.refl _) (.old (.refl _) (.new .nil))))))))))))), (fun _ ht => by cases ht), ?_⟩
          refine ⟨[], by kernel_rfl, ?_, _, rfl, ?_⟩
          ·
            exact .nil
          refine WpC.seq ?_
          refine WpC.region E.obj rfl ?_
          refine wpO.val rfl (oper_fieldAddr rfl fo42_3 nz27 rfl) rfl ?_
          refine wpO.val rfl (oper_load H47 (i := 2) rfl rfl (part_one ag27 rfl)) rfl ?_
          refine wpO.val rfl (oper_move rfl) rfl ?_
          obtain ⟨z48, hzz48, h⟩ := bind_some h
          refine wpO.ret rfl (oper_callF rfl rfl) (porticokeep_pick_ok E _ _ _ _ hzz48 _ _ (ArgsC.eq (ArgsC.eq .nil))) rfl ?_
          refine wpO.val rfl (oper_assign rfl) rfl ?_
          refine wpO.nil ?_
          refine WpC.join (B := pureSt) (α := Str × Str × (List Attr)) (fun a => porticokeep_Sheet_Tpl_j54 x20 x22 x24 (porticokeep_Sheet_Tpl_l25 n a1 z8 k25) x32 z35 z37 a.1 a.2.1 a.2.2 = some r) (fun a => [(1, (.ptr b2 0 0)), (2, (.ptr b5 0 0)), (3, (.d (.sl (([[100, 105, 118], [112], [108, 105], [98]]).map D.str) true))), (4, (.d (.sl (([[105, 100], [112, 97], [112, 98], [108, 97, 115, 116]]).map D.str) true))), (5, (.d (.sl ((z8).map D.str) false))), (6, v21), (7, v23), (8, (.d (.int .i64 x24))), (9, (.d (.int .i64 x32))), (11, (.ptr b43 0 0))]) (fun a => [.box b43 [(.d (.int .i64 (Tpl0.mk z35 z37 [] [] []).Kind)), (.d (.int .i64 (Tpl0.mk z35 z37 [] [] []).N)), (.d (.str a.1)), (.d (.str a.2.1)), (.d (.sl ((a.2.2).map encAttr) false)), (.d .nils)], .box b5 [(.d (.int .i64 0)), (.d (.int .i64 0)), (.d (.str [])), (.d (.str [])), (.d .nils), (.d .nils)], .box b2 [(.d (.sl ((a1.Under).map (D.int .i64)) false)), (.d (.sl ((a1.Kinds).map (D.int .i64)) false)), (.d (.sl ((a1.Ns).map (D.int .i64)) false)), (.d (.sl ((a1.Texts).map (D.int .i64)) false))], .grow v21 ((x20).map encTpl0), .grow v23 ((x22).map (D.int .i64))]) ?_ ?_
          ·
            intro a S49 H50 h
            obtain ⟨x51, x52, x53⟩ := a
            replace h : porticokeep_Sheet_Tpl_j54 x20 x22 x24 (porticokeep_Sheet_Tpl_l25 n a1 z8 k25) x32 z35 z37 x51 x52 x53 = some r := h
            replace H50 : Has pureSt S49 [.box b43 [(.d (.int .i64 (Tpl0.mk z35 z37 [] [] []).Kind)), (.d (.int .i64 (Tpl0.mk z35 z37 [] [] []).N)), (.d (.str x51)), (.d (.str x52)), (.d (.sl ((x53).map encAttr) false)), (.d .nils)], .box b5 [(.d (.int .i64 0)), (.d (.int .i64 0)), (.d (.str [])), (.d (.str [])), (.d .nils), (.d .nils)], .box b2 [(.d (.sl ((a1.Under).map (D.int .i64)) false)), (.d (.sl ((a1.Kinds).map (D.int .i64)) false)), (.d (.sl ((a1.Ns).map (D.int .i64)) false)), (.d (.sl ((a1.Texts).map (D.int .i64)) false))], .grow v21 ((x20).map encTpl0), .grow v23 ((x22).map (D.int .i64))] := H50
            unfold porticokeep_Sheet_Tpl_j54 at h
            refine WpC.region E.obj rfl ?_
            refine wpO.val rfl (oper_move rfl) rfl ?_
            refine wpO.val rfl (oper_load H50 (i := 0) rfl rfl (part_agg ag26 sz26 rfl)) rfl ?_
            refine wpO.less (Less.agg' (d := encTpl0 (Tpl0.mk ((Tpl0.mk z35 z37 [] [] []).Kind) ((Tpl0.mk z35 z37 [] [] []).N) x51 x52 x53)) (CellsC.eq rfl (CellsC.eq rfl (CellsC.eq rfl (CellsC.eq rfl (CellsC.eq rfl (CellsC.eq rfl .nil)))))) ((Tpl0.eq _).trans rfl)) ?_
            refine wpO.val rfl (oper_buildSlice (vs := [(.d (encTpl0 (Tpl0.mk ((Tpl0.mk z35 z37 [] [] []).Kind) ((Tpl0.mk z35 z37 [] [] []).N) x51 x52 x53)))]) (ds := [(encTpl0 (Tpl0.mk ((Tpl0.mk z35 z37 [] [] []).Kind) ((Tpl0.mk z35 z37 [] [] []).N) x51 x52 x53))]) rw24 el24 ag26 zo26 sz26 rfl (by decide) (.cons rfl (Tpl0.len _) .nil) rfl (by intro d hd; simp only [List.mem_cons, List.not_mem_nil, or_false] at hd; rcases hd with rfl <;> exact Tpl0.agg _) rfl) rfl ?_
            obtain ⟨z55, hzz55, h⟩ := bind_some h
            refine wpO.append (xs := (x20).map encTpl0) (ys := ([(Tpl0.mk ((Tpl0.mk z35 z37 [] [] []).Kind) ((Tpl0.mk z35 z37 [] [] []).N) x51 x52 x53)]).map encTpl0) (zs := (z55).map encTpl0) H50 rfl rfl rfl (i := 3) rfl rfl rw24 os24 el24 (app_bound hzz55) nb26 rfl (sizes_map (enc := encTpl0) (fun z => (Tpl0.len z).trans sz26.symm) _) (sizes_map (enc := encTpl0) (fun z => (Tpl0.len z).trans sz26.symm) _) zk26 rfl (app_eq hzz55) (fun v56 S57 H58 => ?_)
            refine wpO.val rfl (oper_move rfl) rfl ?_
            refine wpO.val rfl (oper_move rfl) rfl ?_
            refine wpO.val rfl (oper_buildSlice (vs := [(.d (.int .i64 x32))]) (ds := [(.int .i64 x32)]) rw27 el27 ag3 zo3 sz3 rfl (by decide) (.cons rfl rfl .nil) rfl (by intro d hd; simp only [List.mem_cons, List.not_mem_nil, or_false] at hd; rcases hd with rfl <;> rfl) rfl) rfl ?_
            obtain ⟨z59, hzz59, h⟩ := bind_some h
            refine wpO.append (xs := (x22).map (D.int .i64)) (ys := ([x32]).map (D.int .i64)) (zs := (z59).map (D.int .i64)) H58 rfl rfl rfl (i := 4) rfl rfl rw27 os27 el27 (app_bound hzz59) nb3 rfl (sizes_map (enc := (D.int .i64)) (fun _ => sz3.symm) _) (sizes_map (enc := (D.int .i64)) (fun _ => sz3.symm) _) zk3 rfl (app_eq hzz59) (fun v60 S61 H62 => ?_)
            refine wpO.val rfl (oper_assign rfl) rfl ?_
            refine wpO.val rfl (oper_assign rfl) rfl ?_
            refine wpO.nil ?_
            refine WpC.region E.obj rfl ?_
            refine wpO.val rfl (oper_move rfl) rfl ?_
            refine wpO.val rfl (oper_bin rfl rfl binD_add) rfl ?_
            refine wpO.val rfl (oper_assign rfl) rfl ?_
            refine wpO.nil ?_
            exact ⟨⟨z55, v56, z59, v60, (IntKind.wrap .i64 (x24 + 1))⟩, _, _, S61, .refl _ _, .refl _, (WeakE.cons rfl (.refl _) (WeakE.cons rfl (.refl _) (WeakE.cons rfl (.refl _) (WeakE.cons rfl (.refl _) (WeakE.cons rfl (.refl _) (WeakE.cons rfl (.refl _) (WeakE.cons rfl (.refl _) (WeakE.cons rfl (.refl _) WeakE.nil)))))))), H62.sel [1, 2, 3, 4] (by decide) rfl, h⟩
          ·
            refine WpC.seq ?_
            refine WpC.region E.obj rfl ?_
            refine wpO.val rfl (oper_fieldAddr rfl fo26_0 nz3 rfl) rfl ?_
            refine wpO.val rfl (oper_load H47 (i := 0) rfl rfl (part_one ag3 rfl)) rfl ?_
            refine wpO.nil ?_
            refine WpC.block ?_
            refine WpC.seq ?_
            refine WpC.region E.obj rfl ?_
            refine wpO.val rfl (oper_bin rfl rfl binD_eql) rfl ?_
            refine wpO.val rfl (oper_assign rfl) rfl ?_
            refine wpO.nil ?_
            refine WpC.cond rfl (fun hb63 => ?_) (fun hb63 => ?_)
            ·
              replace h := if_t hb63 h
              refine WpC.seq ?_
              refine WpC.region E.obj rfl ?_
              refine wpO.val rfl (oper_move rfl) rfl ?_
              refine wpO.val rfl (oper_move rfl) rfl ?_
              refine wpO.val rfl (oper_move rfl) rfl ?_
              refine wpO.val rfl (oper_lenL rfl es45) rfl ?_
              refine wpO.val rfl (oper_bin rfl rfl binD_sub) rfl ?_
              obtain ⟨z64, hzz64, h⟩ := bind_some h
              refine wpO.ret rfl (oper_callF rfl rfl) (porticobook_Within_ok E _ _ _ _ _ hzz64 _ _ (ArgsC.eq (ArgsC.eq (ArgsC.eq .nil)))) rfl ?_
              obtain ⟨z65, hzz65, h⟩ := bind_some h
              refine wpO.val rfl (oper_idx rfl rfl (idxAddr (enc := D.str) hzz65 el45 as9 (((fun _ => rfl) _).trans sz9.symm))) rfl ?_
              refine wpO.val rfl (oper_loadE rfl (partD_one ag9 rfl)) rfl ?_
              refine wpO.val rfl (oper_fieldAddr rfl fo26_2 nz9 rfl) rfl ?_
              refine wpO.store H47 (i := 0) rfl rfl rfl rfl rfl rfl sz9 rfl as9 rfl rfl rfl (fun S66 H67 => ?_)
              refine wpO.nil ?_
              refine WpC.seq ?_
              refine WpC.region E.obj rfl ?_
              refine wpO.val rfl (oper_move rfl) rfl ?_
              refine wpO.val rfl (oper_bin rfl rfl binD_and) rfl ?_
              refine wpO.val rfl (oper_bin rfl rfl binD_eql) rfl ?_
              refine wpO.nil ?_
              refine WpC.cond rfl (fun hb68 => ?_) (fun hb68 => ?_)
              ·
                replace h := if_t hb68 h
                refine WpC.region E.obj rfl ?_
                refine wpO.val rfl (oper_move rfl) rfl ?_
                refine wpO.val rfl (oper_move rfl) rfl ?_
                obtain ⟨z69, hzz69, h⟩ := bind_some h
                refine wpO.val rfl (oper_bin rfl rfl (binD_quoI hzz69)) rfl ?_
                refine wpO.val rfl (oper_move rfl) rfl ?_
                refine wpO.val rfl (oper_lenL rfl es45) rfl ?_
                refine wpO.val rfl (oper_bin rfl rfl binD_sub) rfl ?_
                obtain ⟨z70, hzz70, h⟩ := bind_some h
                refine wpO.ret rfl (oper_callF rfl rfl) (porticobook_Within_ok E _ _ _ _ _ hzz70 _ _ (ArgsC.eq (ArgsC.eq (ArgsC.eq .nil)))) rfl ?_
                obtain ⟨z71, hzz71, h⟩ := bind_some h
                refine wpO.val rfl (oper_idx rfl rfl (idxAddr (enc := D.str) hzz71 el45 as9 (((fun _ => rfl) _).trans sz9.symm))) rfl ?_
                refine wpO.val rfl (oper_loadE rfl (partD_one ag9 rfl)) rfl ?_
                refine wpO.val rfl (oper_build (cs := [(.d (.str [120])), (.d (.str z71))]) zo68 rfl (place_struct68) (fill1 rfl rfl rfl rfl (fill1 rfl rfl rfl rfl rfl))) rfl ?_
                refine wpO.less (Less.agg' (d := encAttr (Attr.mk [120] z71)) (CellsC.eq rfl (CellsC.eq rfl .nil)) ((Attr.eq _).trans rfl)) ?_
                refine wpO.val rfl (oper_buildSlice (vs := [(.d (encAttr (Attr.mk [120] z71)))]) (ds := [(encAttr (Attr.mk [120] z71))]) rw23 el23 ag68 zo68 sz68 rfl (by decide) (.cons rfl (Attr.len _) .nil) rfl (by intro d hd; simp only [List.mem_cons, List.not_mem_nil, or_false] at hd; rcases hd with rfl <;> exact Attr.agg _) rfl) rfl ?_
                refine wpO.val rfl (oper_fieldAddr rfl fo26_4 nz23 rfl) rfl ?_
                refine wpO.store H67 (i := 0) rfl rfl rfl rfl rfl rfl sz23 rfl as23 rfl rfl rfl (fun S72 H73 => ?_)
                refine wpO.nil ?_
                obtain ⟨S74, hw75, H76⟩ := H73.weakBox (i := 0) (cs' := [(.d (.int .i64 (Tpl0.mk z35 z37 [] [] []).Kind)), (.d (.int .i64 (Tpl0.mk z35 z37 [] [] []).N)), (.d (.str z65)), (.d (.str (Tpl0.mk z35 z37 [] [] []).Text)), (.d (.sl (([(Attr.mk [120] z71)]).map encAttr) false)), (.d .nils)]) rfl (.cons (.refl _) (.cons (.refl _) (.cons (.refl _) (.cons (.refl _) (.cons slL' (.cons (.refl _) .nil))))))
                exact ⟨⟨z65, (Tpl0.mk z35 z37 [] [] []).Text, [(Attr.mk [120] z71)]⟩, _, _, S74, .refl _ _, hw75, (WeakE.cons rfl (.refl _) (WeakE.cons rfl (.refl _) (WeakE.cons rfl (.refl _) (WeakE.cons rfl (.refl _) (WeakE.cons rfl (.refl _) (WeakE.cons rfl (.refl _) (WeakE.cons rfl (.refl _) (WeakE.cons rfl (.refl _) (WeakE.cons rfl (.refl _) (WeakE.cons rfl (.refl _) WeakE.nil)))))))))), H76.sel [0, 1, 2, 3, 4] (by decide) rfl, h⟩
              ·
                replace h := if_f hb68 h
                refine WpC.skip ?_
                exact ⟨⟨z65, (Tpl0.mk z35 z37 [] [] []).Text, (Tpl0.mk z35 z37 [] [] []).Attrs⟩, _, _, S66, .refl _ _, .refl _, (WeakE.cons rfl (.refl _) (WeakE.cons rfl (.refl _) (WeakE.cons rfl (.refl _) (WeakE.cons rfl (.refl _) (WeakE.cons rfl (.refl _) (WeakE.cons rfl (.refl _) (WeakE.cons rfl (.refl _) (WeakE.cons rfl (.refl _) (WeakE.cons rfl (.refl _) (WeakE.cons rfl (.refl _) WeakE.nil)))))))))), H67.sel [0, 1, 2, 3, 4] (by decide) rfl, h⟩
            ·
              replace h := if_f hb63 h
              refine WpC.seq ?_
              refine WpC.region E.obj rfl ?_
              refine wpO.val rfl (oper_bin rfl rfl binD_eql) rfl ?_
              refine wpO.val rfl (oper_assign rfl) rfl ?_
              refine wpO.nil ?_
              refine WpC.cond rfl (fun hb77 => ?_) (fun hb77 => ?_)
              ·
                replace h := if_t hb77 h
                refine WpC.region E.obj rfl ?_
                refine wpO.val rfl (oper_move rfl) rfl ?_
                refine wpO.val rfl (oper_move rfl) rfl ?_
                refine wpO.val rfl (oper_move rfl) rfl ?_
                refine wpO.val rfl (oper_lenL rfl es45) rfl ?_
                refine wpO.val rfl (oper_bin rfl rfl binD_sub) rfl ?_
                obtain ⟨z78, hzz78, h⟩ := bind_some h
                refine wpO.ret rfl (oper_callF rfl rfl) (porticobook_Within_ok E _ _ _ _ _ hzz78 _ _ (ArgsC.eq (ArgsC.eq (ArgsC.eq .nil)))) rfl ?_
                obtain ⟨z79, hzz79, h⟩ := bind_some h
                refine wpO.val rfl (oper_idx rfl rfl (idxAddr (enc := D.str) hzz79 el45 as9 (((fun _ => rfl) _).trans sz9.symm))) rfl ?_
                refine wpO.val rfl (oper_loadE rfl (partD_one ag9 rfl)) rfl ?_
                refine wpO.val rfl (oper_fieldAddr rfl fo26_3 nz9 rfl) rfl ?_
                refine wpO.store H47 (i := 0) rfl rfl rfl rfl rfl rfl sz9 rfl as9 rfl rfl rfl (fun S80 H81 => ?_)
                refine wpO.nil ?_
                exact ⟨⟨(Tpl0.mk z35 z37 [] [] []).Tag, z79, (Tpl0.mk z35 z37 [] [] []).Attrs⟩, _, _, S80, .refl _ _, .refl _, (WeakE.cons rfl (.refl _) (WeakE.cons rfl (.refl _) (WeakE.cons rfl (.refl _) (WeakE.cons rfl (.refl _) (WeakE.cons rfl (.refl _) (WeakE.cons rfl (.refl _) (WeakE.cons rfl (.refl _) (WeakE.cons rfl (.refl _) (WeakE.cons rfl (.refl _) (WeakE.cons rfl (.refl _) WeakE.nil)))))))))), H81.sel [0, 1, 2, 3, 4] (by decide) rfl, h⟩
              ·
                replace h := if_f hb77 h
                refine WpC.seq ?_
                refine WpC.region E.obj rfl ?_
                refine wpO.val rfl (oper_bin rfl rfl binD_eql) rfl ?_
                refine wpO.val rfl (oper_assign rfl) rfl ?_
                refine wpO.nil ?_
                refine WpC.cond rfl (fun hb82 => ?_) (fun hb82 => ?_)
                ·
                  replace h := if_t hb82 h
                  refine WpC.region E.obj rfl ?_
                  refine wpO.val rfl (oper_move rfl) rfl ?_
                  refine wpO.val rfl (oper_move rfl) rfl ?_
                  refine wpO.val rfl (oper_move rfl) rfl ?_
                  refine wpO.val rfl (oper_lenL rfl es45) rfl ?_
                  refine wpO.val rfl (oper_bin rfl rfl binD_sub) rfl ?_
                  obtain ⟨z83, hzz83, h⟩ := bind_some h
                  refine wpO.ret rfl (oper_callF rfl rfl) (porticobook_Within_ok E _ _ _ _ _ hzz83 _ _ (ArgsC.eq (ArgsC.eq (ArgsC.eq .nil)))) rfl ?_
                  obtain ⟨z84, hzz84, h⟩ := bind_some h
                  refine wpO.val rfl (oper_idx rfl rfl (idxAddr (enc := D.str) hzz84 el45 as9 (((fun _ => rfl) _).trans sz9.symm))) rfl ?_
                  refine wpO.val rfl (oper_loadE rfl (partD_one ag9 rfl)) rfl ?_
                  refine wpO.val rfl (oper_fieldAddr rfl fo26_3 nz9 rfl) rfl ?_
                  refine wpO.store H47 (i := 0) rfl rfl rfl rfl rfl rfl sz9 rfl as9 rfl rfl rfl (fun S85 H86 => ?_)
                  refine wpO.nil ?_
                  exact ⟨⟨(Tpl0.mk z35 z37 [] [] []).Tag, z84, (Tpl0.mk z35 z37 [] [] []).Attrs⟩, _, _, S85, .refl _ _, .refl _, (WeakE.cons rfl (.refl _) (WeakE.cons rfl (.refl _) (WeakE.cons rfl (.refl _) (WeakE.cons rfl (.refl _) (WeakE.cons rfl (.refl _) (WeakE.cons rfl (.refl _) (WeakE.cons rfl (.refl _) (WeakE.cons rfl (.refl _) (WeakE.cons rfl (.refl _) (WeakE.cons rfl (.refl _) WeakE.nil)))))))))), H86.sel [0, 1, 2, 3, 4] (by decide) rfl, h⟩
                ·
                  replace h := if_f hb82 h
                  refine WpC.skip ?_
                  exact ⟨⟨(Tpl0.mk z35 z37 [] [] []).Tag, (Tpl0.mk z35 z37 [] [] []).Text, (Tpl0.mk z35 z37 [] [] []).Attrs⟩, _, _, S46, .refl _ _, .refl _, (WeakE.cons rfl (.refl _) (WeakE.cons rfl (.refl _) (WeakE.cons rfl (.refl _) (WeakE.cons rfl (.refl _) (WeakE.cons rfl (.refl _) (WeakE.cons rfl (.refl _) (WeakE.cons rfl (.refl _) (WeakE.cons rfl (.refl _) (WeakE.cons rfl (.refl _) (WeakE.cons rfl (.refl _) WeakE.nil)))))))))), H47.sel [0, 1, 2, 3, 4] (by decide) rfl, h⟩
        ·
          refine WpC.seq ?_
          refine WpC.region E.obj rfl ?_
          refine wpO.val rfl (oper_move rfl) rfl ?_
          refine wpO.val rfl (oper_move rfl) rfl ?_
          obtain ⟨z87, hzz87, h⟩ := bind_some h
          refine wpO.val rfl (oper_idx rfl rfl (idxAddr_grow (enc := encTpl0) H19 (i := 2) rfl hzz87 el24 as26 ((Tpl0.len _).trans sz26.symm))) rfl ?_
          refine wpO.val rfl (oper_fieldAddrE rfl fo26_0 nz3 rfl) rfl ?_
          refine wpO.val rfl (oper_loadE rfl (by rw [Tpl0.cells]; exact partD_one ag3 rfl)) rfl ?_
          refine wpO.val rfl (oper_assign rfl) rfl ?_
          refine wpO.nil ?_
          refine WpC.seq ?_
          refine WpC.region E.obj rfl ?_
          refine wpO.val rfl (oper_move rfl) rfl ?_
          refine wpO.val rfl (oper_bin rfl rfl binD_neq) rfl ?_
          refine wpO.val rfl (oper_move rfl) rfl ?_
          refine wpO.groupV 3 49 (.d (.bool ((z87.Kind != 1) && (z87.Kind != 5)))) ?_ ?_
          ·
            rcases Bool.eq_false_or_eq_true ((z87.Kind != 1)) with hB88 | hB88
            ·
              refine wpO.bool hB88 ?_
              refine wpO.val rfl (oper_move rfl) rfl ?_
              refine wpO.val rfl (oper_bin rfl rfl binD_neq) rfl ?_
              refine wpO.val rfl (oper_pick (b := true) rfl rfl) rfl ?_
              exact wpO.nil ⟨_, rfl, (WeakE.put (WeakE.push rfl (WeakE.push rfl (WeakE.put (.refl _) (Less.eq (by rw [hB88]))))) (Less.eq (by rw [hB88]; rw [Bool.true_and])))⟩
            ·
              refine wpO.bool hB88 ?_
              refine wpO.no rfl rfl ?_
              refine wpO.no rfl rfl ?_
              refine wpO.val rfl (oper_pick (b := false) rfl rfl) rfl ?_
              exact wpO.nil ⟨_, rfl, (WeakE.put (WeakE.push rfl (WeakE.push rfl (WeakE.put (.refl _) (Less.eq (by rw [hB88]))))) (Less.eq (by rw [hB88]; rw [Bool.false_and])))⟩
          ·
            refine wpO.val rfl (oper_move rfl) rfl ?_
            refine wpO.groupV 3 53 (.d (.bool (((z87.Kind != 1) && (z87.Kind != 5)) && (z87.Kind != 6)))) ?_ ?_
            ·
              rcases Bool.eq_false_or_eq_true (((z87.Kind != 1) && (z87.Kind != 5))) with hB89 | hB89
              ·
                refine wpO.bool hB89 ?_
                refine wpO.val rfl (oper_move rfl) rfl ?_
                refine wpO.val rfl (oper_bin rfl rfl binD_neq) rfl ?_
                refine wpO.val rfl (oper_pick (b := true) rfl rfl) rfl ?_
                exact wpO.nil ⟨_, rfl, (WeakE.put (WeakE.push rfl (WeakE.push rfl (WeakE.put (.refl _) (Less.eq (by rw [hB89]))))) (Less.eq (by rw [hB89]; rw [Bool.true_and])))⟩
              ·
                refine wpO.bool hB89 ?_
                refine wpO.no rfl rfl ?_
                refine wpO.no rfl rfl ?_
                refine wpO.val rfl (oper_pick (b := false) rfl rfl) rfl ?_
                exact wpO.nil ⟨_, rfl, (WeakE.put (WeakE.push rfl (WeakE.push rfl (WeakE.put (.refl _) (Less.eq (by rw [hB89]))))) (Less.eq (by rw [hB89]; rw [Bool.false_and])))⟩
            ·
              refine wpO.val rfl (oper_move rfl) rfl ?_
              obtain ⟨z91, hzz91, h⟩ := bind_some h
              refine wpO.groupV 5 59 (.d (.bool z91)) ?_ ?_
              ·
                rcases Bool.eq_false_or_eq_true ((((z87.Kind != 1) && (z87.Kind != 5)) && (z87.Kind != 6))) with hB90 | hB90
                ·
                  refine wpO.bool hB90 ?_
                  refine wpO.no rfl rfl ?_
                  refine wpO.no rfl rfl ?_
                  refine wpO.no rfl rfl ?_
                  refine wpO.no rfl rfl ?_
                  refine wpO.val rfl (oper_pick (b := true) rfl rfl) rfl ?_
                  replace hzz91 := if_t hB90 hzz91
                  cases hzz91
                  exact wpO.nil ⟨_, rfl, (WeakE.put (WeakE.push rfl (WeakE.push rfl (WeakE.push rfl (WeakE.push rfl (WeakE.put (.refl _) (Less.eq (by rw [hB90]))))))) (.refl _))⟩
                ·
                  refine wpO.bool hB90 ?_
                  replace hzz91 := if_f hB90 hzz91
                  refine wpO.val rfl (oper_move rfl) rfl ?_
                  refine wpO.val rfl (oper_move rfl) rfl ?_
                  obtain ⟨z92, hzz92, hzz91⟩ := bind_some hzz91
                  refine wpO.ret rfl (oper_callF rfl rfl) (porticokeep_deep_ok E _ _ _ _ hzz92 _ _ (ArgsC.grow H19 (i := 3) rfl (ArgsC.eq .nil))) rfl ?_
                  refine wpO.val rfl (oper_bin rfl rfl binD_gtr) rfl ?_
                  refine wpO.val rfl (oper_pick (b := false) rfl rfl) rfl ?_
                  cases hzz91
                  exact wpO.nil ⟨_, rfl, (WeakE.put (WeakE.push rfl (WeakE.push rfl (WeakE.push rfl (WeakE.push rfl (WeakE.put (.refl _) (Less.eq (by rw [hB90]))))))) (.refl _))⟩
              ·
                refine wpO.nil ?_
                refine WpC.cond rfl (fun hb93 => ?_) (fun hb93 => ?_)
                ·
                  replace h := if_t hb93 h
                  refine WpC.region E.obj rfl ?_
                  refine wpO.val rfl (oper_assign rfl) rfl ?_
                  refine wpO.nil ?_
                  exact ⟨0, _, _, S18, .refl _ _, .refl _, (WeakE.cons rfl (.refl _) (WeakE.cons rfl (.refl _) (WeakE.cons rfl (.refl _) (WeakE.cons rfl (.refl _) (WeakE.cons rfl (.refl _) (WeakE.cons rfl (.refl _) (WeakE.cons rfl (.refl _) (WeakE.cons rfl (.refl _) (WeakE.cons rfl (.refl _) WeakE.nil))))))))), H19.sel [0, 1, 2, 3] (by decide) rfl, h⟩
                ·
                  replace h := if_f hb93 h
                  refine WpC.skip ?_
                  exact ⟨z29, _, _, S18, .refl _ _, .refl _, (WeakE.cons rfl (.refl _) (WeakE.cons rfl (.refl _) (WeakE.cons rfl (.refl _) (WeakE.cons rfl (.refl _) (WeakE.cons rfl (.refl _) (WeakE.cons rfl (.refl _) (WeakE.cons rfl (.refl _) (WeakE.cons rfl (.refl _) (WeakE.cons rfl (.refl _) WeakE.nil))))))))), H19.sel [0, 1, 2, 3] (by decide) rfl, h⟩
      ·
        replace h := if_f hb27 h
        refine WpC.exit ?_
        refine WpC.seq ?_
        refine WpC.region E.obj rfl ?_
        refine wpO.val rfl (oper_move rfl) rfl ?_
        refine wpO.val rfl (oper_move rfl) rfl ?_
        obtain ⟨z94, hzz94, h⟩ := bind_some h
        refine wpO.ret rfl (oper_callF rfl rfl) (porticokeep_hang_ok E _ _ _ _ _ hzz94 _ _ (ArgsC.grow H19 (i := 2) rfl (ArgsC.grow H19 (i := 3) rfl (ArgsC.eq .nil)))) rfl ?_
        refine wpO.store H19 (i := 0) rfl rfl rfl rfl (Tpl.cellsA _) rfl sz26 rfl as26 rfl rfl rfl (fun S95 H96 => ?_)
        refine wpO.nil ?_
        have hr := Option.some.inj h
        subst hr
        exact WpC.ret ⟨_, resultsE_cell H96 (i := 0) rfl rfl rfl (part_agg ag26 sz26 rfl), rfl, end1 (ArgsC.less_agg (d := encTpl z94) (CellsC.eq rfl (CellsC.eq rfl (CellsC.eq rfl (CellsC.eq rfl (CellsC.eq rfl (CellsC.eq rfl .nil)))))) ((Tpl.eq _).trans rfl))⟩
set_option maxRecDepth 20000 in
set_option maxHeartbeats 4000000 in
theorem porticokeep_Part_Comp_ok (n : Nat) (a1 : K_Part) (r : Comp) (h : porticokeep_Part_Comp n a1 = some r) : SpecC R cfg.P 11 [(encK_Part a1)] (.d (encComp r)) := by
  unfold porticokeep_Part_Comp at h
  refine SpecC.of_wp E.obj.toObjOk (C := cfg) Tryd.func11 rfl nm11 rfl ?_
  have H0 : Has pureSt pureSt [] := Has.pure
  refine WpC.seq ?_
  refine WpC.region E.obj rfl ?_
  refine wpO.box H0 rfl rfl rfl (K_Part.cellsA _) rfl (fun b2 S3 H4 => ?_)
  refine wpO.alloc H4 rfl ob32 zo32 rfl rfl (fun b5 S6 H7 => ?_)
  refine wpO.nil ?_
  refine WpC.seq ?_
  obtain ⟨z8, hzz8, h⟩ := bind_some h
  obtain ⟨z9, hzz9, h⟩ := bind_some h
  refine WpC.drawP E.obj hmix [[(1, none)], [(7, some 0)], [(8, some 1)], [(1, none)], [(10, some 3)], [(9, some 2), (11, some 4)], [(12, some 5)], [], [(3, some 7), (13, some 6)]] [(1, none), (2, none), (3, some 7)] (by kernel_rfl) [7, 8] (by decide) [some (.ptr b2 0 0), some (.d (encK_Sheet a1.Page)), some (.d (encTpl z8)), some (.ptr b2 0 6), some (.d (.bool a1.Outlet)), some (.d (encTpl z9)), some (Ev.mkAgg [(.d (.int .i64 z9.Kind)), (.d (.int .i64 z9.N)), (.d (.str z9.Tag)), (.d (.str z9.Text)), (.d (.sl ((z9.Attrs).map encAttr) false)), (.d (.sl ((z9.Kids).map encTpl) false)), (.d .nils), (.d .nils)]), none, none] ?_
  refine ⟨[0, 1, 2, 3, 4, 5, 6], by kernel_rfl, ?_, _, _, rfl, rfl, .step ?_⟩
  ·
    refine .cons rfl rfl rfl (.step ?_) ?_
    ·
      refine wpO.val rfl (oper_fieldAddr rfl fo44_0 nz42 rfl) rfl ?_
      exact wpO.nil ⟨_, _, rfl, fun _ ht => by cases ht; exact ⟨rfl, .refl _⟩⟩
    refine .cons rfl rfl rfl (.step ?_) ?_
    ·
      refine wpO.val rfl (oper_load H7 (i := 1) rfl rfl (part_agg ag42 sz42 rfl)) rfl ?_
      refine wpO.less (Less.agg' (d := encK_Sheet a1.Page) (CellsC.eq rfl (CellsC.eq rfl (CellsC.eq rfl (CellsC.eq rfl .nil)))) ((K_Sheet.eq _).trans rfl)) ?_
      exact wpO.nil ⟨_, _, rfl, fun _ ht => by cases ht; exact ⟨rfl, .refl _⟩⟩
    refine .cons rfl rfl rfl (.step ?_) ?_
    ·
      refine wpO.ret rfl (oper_callF rfl rfl) (porticokeep_Sheet_Tpl_ok E _ _ _ hzz8 _ _ (ArgsC.eq .nil)) rfl ?_
      exact wpO.nil ⟨_, _, rfl, fun _ ht => by cases ht; exact ⟨rfl, .refl _⟩⟩
    refine .cons rfl rfl rfl (.step ?_) ?_
    ·
      refine wpO.val rfl (oper_fieldAddr rfl fo44_3 nz4 rfl) rfl ?_
      exact wpO.nil ⟨_, _, rfl, fun _ ht => by cases ht; exact ⟨rfl, .refl _⟩⟩
    refine .cons rfl rfl rfl (.step ?_) ?_
    ·
      refine wpO.val rfl (oper_load H7 (i := 1) rfl rfl (part_one ag4 rfl)) rfl ?_
      exact wpO.nil ⟨_, _, rfl, fun _ ht => by cases ht; exact ⟨rfl, .refl _⟩⟩
    refine .cons rfl rfl rfl (.step ?_) ?_
    ·
      refine wpO.ret rfl (oper_callF rfl rfl) (porticokeep_Plain_ok E _ _ _ _ hzz9 _ _ (ArgsC.eq (ArgsC.eq .nil))) rfl ?_
      exact wpO.nil ⟨_, _, rfl, fun _ ht => by cases ht; exact ⟨rfl, .refl _⟩⟩
    refine .cons rfl rfl rfl (.step ?_) ?_
    ·
      refine wpO.val rfl (oper_build (cs := [(.d (.int .i64 z9.Kind)), (.d (.int .i64 z9.N)), (.d (.str z9.Tag)), (.d (.str z9.Text)), (.d (.sl ((z9.Attrs).map encAttr) false)), (.d (.sl ((z9.Kids).map encTpl) false)), (.d .nils), (.d .nils)]) zo32 rfl (place_struct32) (fill1 rfl (cellsP_d (Tpl.cellsA _)) rfl rfl rfl)) rfl ?_
      exact wpO.nil ⟨_, _, rfl, fun _ ht => by cases ht; exact ⟨rfl, .refl _⟩⟩
    exact .nil
  refine wpO.alloc H7 rfl ob32 zo32 rfl rfl (fun b15 S16 H17 => ?_)
  refine wpO.nil ⟨_, _, _, rfl, (fun _ ht => by cases ht; rfl), [some (.ptr b2 0 0), some (.d (encK_Sheet a1.Page)), some (.d (encTpl z8)), some (.ptr b2 0 6), some (.d (.bool a1.Outlet)), some (.d (encTpl z9)), some (Ev.mkAgg [(.d (.int .i64 z9.Kind)), (.d (.int .i64 z9.N)), (.d (.str z9.Tag)), (.d (.str z9.Text)), (.d (.sl ((z9.Attrs).map encAttr) false)), (.d (.sl ((z9.Kids).map encTpl) false)), (.d .nils), (.d .nils)]), some (.ptr b15 0 0), none], (.old (.refl _) (.old (.refl _) (.old (.refl _) (.old (.refl _) (.old (.refl _) (.old (.refl _) (.old (.refl _) (.new (.new .nil))))))))), (fun _ ht => by cases ht; exact ⟨_, rfl, .refl _⟩), ?_⟩
  refine ⟨[0, 1, 2, 3, 4, 5, 6], by kernel_rfl, ?_, _, _, rfl, rfl, .step ?_⟩
  ·
    refine .cons rfl rfl rfl (.step ?_) ?_
    ·
      refine wpO.val rfl (oper_fieldAddr rfl fo44_0 nz42 rfl) rfl ?_
      exact wpO.nil ⟨_, _, rfl, fun _ ht => by cases ht; exact ⟨rfl, .refl _⟩⟩
    refine .cons rfl rfl rfl (.step ?_) ?_
    ·
      refine wpO.val rfl (oper_load H17 (i := 2) rfl rfl (part_agg ag42 sz42 rfl)) rfl ?_
      refine wpO.less (Less.agg' (d := encK_Sheet a1.Page) (CellsC.eq rfl (CellsC.eq rfl (CellsC.eq rfl (CellsC.eq rfl .nil)))) ((K_Sheet.eq _).trans rfl)) ?_
      exact wpO.nil ⟨_, _, rfl, fun _ ht => by cases ht; exact ⟨rfl, .refl _⟩⟩
    refine .cons rfl rfl rfl (.step ?_) ?_
    ·
      refine wpO.ret rfl (oper_callF rfl rfl) (porticokeep_Sheet_Tpl_ok E _ _ _ hzz8 _ _ (ArgsC.eq .nil)) rfl ?_
      exact wpO.nil ⟨_, _, rfl, fun _ ht => by cases ht; exact ⟨rfl, .refl _⟩⟩
    refine .cons rfl rfl rfl (.step ?_) ?_
    ·
      refine wpO.val rfl (oper_fieldAddr rfl fo44_3 nz4 rfl) rfl ?_
      exact wpO.nil ⟨_, _, rfl, fun _ ht => by cases ht; exact ⟨rfl, .refl _⟩⟩
    refine .cons rfl rfl rfl (.step ?_) ?_
    ·
      refine wpO.val rfl (oper_load H17 (i := 2) rfl rfl (part_one ag4 rfl)) rfl ?_
      exact wpO.nil ⟨_, _, rfl, fun _ ht => by cases ht; exact ⟨rfl, .refl _⟩⟩
    refine .cons rfl rfl rfl (.step ?_) ?_
    ·
      refine wpO.ret rfl (oper_callF rfl rfl) (porticokeep_Plain_ok E _ _ _ _ hzz9 _ _ (ArgsC.eq (ArgsC.eq .nil))) rfl ?_
      exact wpO.nil ⟨_, _, rfl, fun _ ht => by cases ht; exact ⟨rfl, .refl _⟩⟩
    refine .cons rfl rfl rfl (.step ?_) ?_
    ·
      refine wpO.val rfl (oper_build (cs := [(.d (.int .i64 z9.Kind)), (.d (.int .i64 z9.N)), (.d (.str z9.Tag)), (.d (.str z9.Text)), (.d (.sl ((z9.Attrs).map encAttr) false)), (.d (.sl ((z9.Kids).map encTpl) false)), (.d .nils), (.d .nils)]) zo32 rfl (place_struct32) (fill1 rfl (cellsP_d (Tpl.cellsA _)) rfl rfl rfl)) rfl ?_
      exact wpO.nil ⟨_, _, rfl, fun _ ht => by cases ht; exact ⟨rfl, .refl _⟩⟩
    exact .nil
  refine wpO.store H17 (i := 0) rfl rfl rfl rfl rfl rfl sz32 rfl as32 rfl rfl rfl (fun S18 H19 => ?_)
  refine wpO.nil ⟨_, .any, _, rfl, (fun _ ht => by cases ht), [some (.ptr b2 0 0), some (.d (encK_Sheet a1.Page)), some (.d (encTpl z8)), some (.ptr b2 0 6), some (.d (.bool a1.Outlet)), some (.d (encTpl z9)), some (Ev.mkAgg [(.d (.int .i64 z9.Kind)), (.d (.int .i64 z9.N)), (.d (.str z9.Tag)), (.d (.str z9.Text)), (.d (.sl ((z9.Attrs).map encAttr) false)), (.d (.sl ((z9.Kids).map encTpl) false)), (.d .nils), (.d .nils)]), some (.ptr b15 0 0), some .any], (.old (.refl _) (.old (.refl _) (.old (.refl _) (.old (.refl _) (.old (.refl _) (.old (.refl _) (.old (.refl _) (.old (.refl _) (.new .nil))))))))), (fun _ ht => by cases ht), ?_⟩
  refine ⟨[], by kernel_rfl, ?_, _, rfl, ?_⟩
  ·
    exact .nil
  refine WpC.seq ?_
  refine WpC.seq ?_
  refine WpC.region E.obj rfl ?_
  refine wpO.val rfl (oper_move rfl) rfl ?_
  refine wpO.nil ?_
  refine WpC.block ?_
  have H82 := H19.nilG
  refine WpL.start (B := pureSt) (α := (List Int) × AV × Int) (fun k a => porticokeep_Part_Comp_l32 n a1 z9 k a.1 a.2.2 = some r) (fun a => [(1, (.ptr b2 0 0)), (2, (.ptr b5 0 0)), (3, (.ptr b15 0 0)), (14, (.d (.int .i64 a.2.2)))]) (fun a => [.box b15 [(.d (.int .i64 z9.Kind)), (.d (.int .i64 z9.N)), (.d (.str z9.Tag)), (.d (.str z9.Text)), (.d (.sl ((z9.Attrs).map encAttr) false)), (.d (.sl ((z9.Kids).map encTpl) false)), a.2.1, (.d .nils)], .box b5 [(.d (.int .i64 0)), (.d (.int .i64 0)), (.d (.str [])), (.d (.str [])), (.d .nils), (.d .nils), (.d .nils), (.d .nils)], .box b2 [(.d (.sl ((a1.Page.Under).map (D.int .i64)) false)), (.d (.sl ((a1.Page.Kinds).map (D.int .i64)) false)), (.d (.sl ((a1.Page.Ns).map (D.int .i64)) false)), (.d (.sl ((a1.Page.Texts).map (D.int .i64)) false)), (.d (.sl ((a1.Init).map (D.int .i64)) false)), (.d (.sl ((a1.Adds).map (D.int .i64)) false)), (.d (.bool a1.Outlet))], .grow a.2.1 ((a.1).map (D.int .i64))]) ?_ ?_ n ⟨⟨[], (.d .nils), 0⟩, _, _, S18, .refl _ _, .refl _, (WeakE.cons rfl (.refl _) (WeakE.cons rfl (.refl _) (WeakE.cons rfl (.refl _) (WeakE.cons rfl (.refl _) WeakE.nil)))), H82.sel [1, 2, 3, 0] (by decide) rfl, h⟩
  · intro a h; simp [porticokeep_Part_Comp_l32] at h
  ·
    intro k32 a S27 H28 h
    obtain ⟨x29, v30, x31⟩ := a
    replace h : porticokeep_Part_Comp_l32 n a1 z9 (k32 + 1) x29 x31 = some r := h
    replace H28 : Has pureSt S27 [.box b15 [(.d (.int .i64 z9.Kind)), (.d (.int .i64 z9.N)), (.d (.str z9.Tag)), (.d (.str z9.Text)), (.d (.sl ((z9.Attrs).map encAttr) false)), (.d (.sl ((z9.Kids).map encTpl) false)), v30, (.d .nils)], .box b5 [(.d (.int .i64 0)), (.d (.int .i64 0)), (.d (.str [])), (.d (.str [])), (.d .nils), (.d .nils), (.d .nils), (.d .nils)], .box b2 [(.d (.sl ((a1.Page.Under).map (D.int .i64)) false)), (.d (.sl ((a1.Page.Kinds).map (D.int .i64)) false)), (.d (.sl ((a1.Page.Ns).map (D.int .i64)) false)), (.d (.sl ((a1.Page.Texts).map (D.int .i64)) false)), (.d (.sl ((a1.Init).map (D.int .i64)) false)), (.d (.sl ((a1.Adds).map (D.int .i64)) false)), (.d (.bool a1.Outlet))], .grow v30 ((x29).map (D.int .i64))] := H28
    unfold porticokeep_Part_Comp_l32 at h
    refine WpC.seq ?_
    refine WpC.region E.obj rfl ?_
    refine wpO.val rfl (oper_bin rfl rfl binD_lss) rfl ?_
    refine wpO.nil ?_
    refine WpC.seq ?_
    refine WpC.cond rfl (fun hb33 => ?_) (fun hb33 => ?_)
    ·
      replace h := if_t hb33 h
      refine WpC.skip ?_
      refine WpC.seq ?_
      refine WpC.block ?_
      refine WpC.seq ?_
      refine WpC.region E.obj rfl ?_
      refine wpO.val rfl (oper_move rfl) rfl ?_
      refine wpO.val rfl (oper_assign rfl) rfl ?_
      refine wpO.nil ?_
      obtain ⟨z34, hzz34, h⟩ := bind_some h
      obtain ⟨z35, hzz35, h⟩ := bind_some h
      obtain ⟨z36, hzz36, h⟩ := bind_some h
      refine WpC.drawP E.obj hmix [[(3, none)], [(17, some 0)], [(1, none)], [(19, some 2)], [(4, none)], [(20, some 3), (21, some 4)], [(22, some 5)], [(23, some 6)], [(18, some 1), (24, some 7)], [(3, none)], [(25, some 8), (26, some 9)]] [(1, none), (2, none), (3, none), (14, none)] (by kernel_rfl) [8, 10] (by decide) [some (.ptr b15 0 6), some v30, some (.ptr b2 0 4), some (.d (.sl ((a1.Init).map (D.int .i64)) false)), some (.d (.int .i64 x31)), some (.d (.int .i64 z34)), some (.d (.int .i64 z35)), some (.d (.sl (([z35]).map (D.int .i64)) true)), none, none, none] ?_
      refine ⟨[0, 1, 2, 3, 4, 5, 6, 7], by kernel_rfl, ?_, _, _, rfl, rfl, .step ?_⟩
      ·
        refine .cons rfl rfl rfl (.step ?_) ?_
        ·
          refine wpO.val rfl (oper_fieldAddr rfl fo32_1 nz27 rfl) rfl ?_
          exact wpO.nil ⟨_, _, rfl, fun _ ht => by cases ht; exact ⟨rfl, .refl _⟩⟩
        refine .cons rfl rfl rfl (.step ?_) ?_
        ·
          refine wpO.val rfl (oper_load H28 (i := 0) rfl rfl (part_one ag27 rfl)) rfl ?_
          exact wpO.nil ⟨_, _, rfl, fun _ ht => by cases ht; exact ⟨rfl, .refl _⟩⟩
        refine .cons rfl rfl rfl (.step ?_) ?_
        ·
          refine wpO.val rfl (oper_fieldAddr rfl fo44_1 nz27 rfl) rfl ?_
          exact wpO.nil ⟨_, _, rfl, fun _ ht => by cases ht; exact ⟨rfl, .refl _⟩⟩
        refine .cons rfl rfl rfl (.step ?_) ?_
        ·
          refine wpO.val rfl (oper_load H28 (i := 2) rfl rfl (part_one ag27 rfl)) rfl ?_
          exact wpO.nil ⟨_, _, rfl, fun _ ht => by cases ht; exact ⟨rfl, .refl _⟩⟩
        refine .cons rfl rfl rfl (.step ?_) ?_
        ·
          refine wpO.val rfl (oper_move rfl) rfl ?_
          exact wpO.nil ⟨_, _, rfl, fun _ ht => by cases ht; exact ⟨rfl, .refl _⟩⟩
        refine .cons rfl rfl rfl (.step ?_) ?_
        ·
          refine wpO.ret rfl (oper_callF rfl rfl) (porticokeep_pick_ok E _ _ _ _ hzz34 _ _ (ArgsC.eq (ArgsC.eq .nil))) rfl ?_
          exact wpO.nil ⟨_, _, rfl, fun _ ht => by cases ht; exact ⟨rfl, .refl _⟩⟩
        refine .cons rfl rfl rfl (.step ?_) ?_
        ·
          refine wpO.ret rfl (oper_callF rfl rfl) (porticobook_Within_ok E _ _ _ _ _ hzz35 _ _ (ArgsC.eq (ArgsC.eq (ArgsC.eq .nil)))) rfl ?_
          exact wpO.nil ⟨_, _, rfl, fun _ ht => by cases ht; exact ⟨rfl, .refl _⟩⟩
        refine .cons rfl rfl rfl (.step ?_) ?_
        ·
          refine wpO.val rfl (oper_buildSlice (vs := [(.d (.int .i64 z35))]) (ds := [(.int .i64 z35)]) rw27 el27 ag3 zo3 sz3 rfl (by decide) (.cons rfl rfl .nil) rfl (by intro d hd; simp only [List.mem_cons, List.not_mem_nil, or_false] at hd; rcases hd with rfl <;> rfl) rfl) rfl ?_
          exact wpO.nil ⟨_, _, rfl, fun _ ht => by cases ht; exact ⟨rfl, .refl _⟩⟩
        exact .nil
      refine wpO.append (xs := (x29).map (D.int .i64)) (ys := ([z35]).map (D.int .i64)) (zs := (z36).map (D.int .i64)) H28 rfl rfl rfl (i := 3) rfl rfl rw27 os27 el27 (app_bound hzz36) nb3 rfl (sizes_map (enc := (D.int .i64)) (fun _ => sz3.symm) _) (sizes_map (enc := (D.int .i64)) (fun _ => sz3.symm) _) zk3 rfl (app_eq hzz36) (fun v42 S43 H44 => ?_)
      refine wpO.nil ⟨_, _, _, rfl, (fun _ ht => by cases ht; rfl), [some (.ptr b15 0 6), some v30, some (.ptr b2 0 4), some (.d (.sl ((a1.Init).map (D.int .i64)) false)), some (.d (.int .i64 x31)), some (.d (.int .i64 z34)), some (.d (.int .i64 z35)), some (.d (.sl (([z35]).map (D.int .i64)) true)), some v42, some (.ptr b15 0 6), none], (.old (.refl _) (.old (.refl _) (.old (.refl _) (.old (.refl _) (.old (.refl _) (.old (.refl _) (.old (.refl _) (.old (.refl _) (.new (.new (.new .nil))))))))))), (fun _ ht => by cases ht; exact ⟨_, rfl, .refl _⟩), ?_⟩
      refine ⟨[9], by kernel_rfl, ?_, _, _, rfl, rfl, .step ?_⟩
      ·
        refine .cons rfl rfl rfl (.step ?_) ?_
        ·
          refine wpO.val rfl (oper_fieldAddr rfl fo32_1 nz27 rfl) rfl ?_
          exact wpO.nil ⟨_, _, rfl, fun _ ht => by cases ht; exact ⟨rfl, .refl _⟩⟩
        exact .nil
      refine wpO.store H44 (i := 0) rfl rfl rfl rfl (grow_toD (H44.at (i := 3) rfl)).2.2.2.2 rfl sz27 (grow_toD (H44.at (i := 3) rfl)).2.2.2.1 as27 rfl rfl rfl (fun S45 H46 => ?_)
      refine wpO.nil ⟨_, .any, _, rfl, (fun _ ht => by cases ht), [some (.ptr b15 0 6), some v30, some (.ptr b2 0 4), some (.d (.sl ((a1.Init).map (D.int .i64)) false)), some (.d (.int .i64 x31)), some (.d (.int .i64 z34)), some (.d (.int .i64 z35)), some (.d (.sl (([z35]).map (D.int .i64)) true)), some v42, some (.ptr b15 0 6), some .any], (.old (.refl _) (.old (.refl _) (.old (.refl _) (.old (.refl _) (.old (.refl _) (.old (.refl _) (.old (.refl _) (.old (.refl _) (.old (.refl _) (.old (.refl _) (.new .nil))))))))))), (fun _ ht => by cases ht), ?_⟩
      refine ⟨[], by kernel_rfl, ?_, _, rfl, ?_⟩
      ·
        exact .nil
      refine WpC.region E.obj rfl ?_
      refine wpO.val rfl (oper_bin rfl rfl binD_add) rfl ?_
      refine wpO.val rfl (oper_move rfl) rfl ?_
      refine wpO.nil ?_
      exact ⟨⟨z36, v42, (IntKind.wrap .i64 (x31 + 1))⟩, _, _, S45, .refl _ _, .refl _, (WeakE.cons rfl (.refl _) (WeakE.cons rfl (.refl _) (WeakE.cons rfl (.refl _) (WeakE.cons rfl (.refl _) WeakE.nil)))), H46.sel [0, 1, 2, 3] (by decide) rfl, h⟩
    ·
      replace h := if_f hb33 h
      refine WpC.exit ?_
      refine WpC.seq ?_
      refine WpC.region E.obj rfl ?_
      refine wpO.val rfl (oper_buildSlice (vs := [(.d (.str [117, 112])), (.d (.str [100, 111, 119, 110])), (.d (.str [97]))]) (ds := [(.str [117, 112]), (.str [100, 111, 119, 110]), (.str [97])]) rw45 el45 ag9 zo9 sz9 rfl (by decide) (.cons rfl rfl (.cons rfl rfl (.cons rfl rfl .nil))) rfl (by intro d hd; simp only [List.mem_cons, List.not_mem_nil, or_false] at hd; rcases hd with rfl | rfl | rfl <;> rfl) rfl) rfl ?_
      refine wpO.val rfl (oper_assign rfl) rfl ?_
      refine wpO.nil ?_
      refine WpC.seq ?_
      refine WpC.seq ?_
      refine WpC.region E.obj rfl ?_
      refine wpO.val rfl (oper_assign rfl) rfl ?_
      refine wpO.nil ?_
      refine WpC.block ?_
      have H81 := H28.nilG
      refine WpL.start (B := pureSt) (α := (List On) × AV × Int) (fun k a => porticokeep_Part_Comp_l59 n a1 z9 x29 k a.1 a.2.2 = some r) (fun a => [(1, (.ptr b2 0 0)), (2, (.ptr b5 0 0)), (3, (.ptr b15 0 0)), (5, (.d (.sl (([[117, 112], [100, 111, 119, 110], [97]]).map D.str) true))), (6, (.d (.int .i64 a.2.2)))]) (fun a => [.box b15 [(.d (.int .i64 z9.Kind)), (.d (.int .i64 z9.N)), (.d (.str z9.Tag)), (.d (.str z9.Text)), (.d (.sl ((z9.Attrs).map encAttr) false)), (.d (.sl ((z9.Kids).map encTpl) false)), v30, a.2.1], .box b5 [(.d (.int .i64 0)), (.d (.int .i64 0)), (.d (.str [])), (.d (.str [])), (.d .nils), (.d .nils), (.d .nils), (.d .nils)], .box b2 [(.d (.sl ((a1.Page.Under).map (D.int .i64)) false)), (.d (.sl ((a1.Page.Kinds).map (D.int .i64)) false)), (.d (.sl ((a1.Page.Ns).map (D.int .i64)) false)), (.d (.sl ((a1.Page.Texts).map (D.int .i64)) false)), (.d (.sl ((a1.Init).map (D.int .i64)) false)), (.d (.sl ((a1.Adds).map (D.int .i64)) false)), (.d (.bool a1.Outlet))], .grow v30 ((x29).map (D.int .i64)), .grow a.2.1 ((a.1).map encOn)]) ?_ ?_ n ⟨⟨[], (.d .nils), 0⟩, _, _, S27, .refl _ _, .refl _, (WeakE.cons rfl (.refl _) (WeakE.cons rfl (.refl _) (WeakE.cons rfl (.refl _) (WeakE.cons rfl (.refl _) (WeakE.cons rfl (.refl _) WeakE.nil))))), H81.sel [1, 2, 3, 4, 0] (by decide) rfl, h⟩
      · intro a h; simp [porticokeep_Part_Comp_l59] at h
      ·
        intro k59 a S54 H55 h
        obtain ⟨x56, v57, x58⟩ := a
        replace h : porticokeep_Part_Comp_l59 n a1 z9 x29 (k59 + 1) x56 x58 = some r := h
        replace H55 : Has pureSt S54 [.box b15 [(.d (.int .i64 z9.Kind)), (.d (.int .i64 z9.N)), (.d (.str z9.Tag)), (.d (.str z9.Text)), (.d (.sl ((z9.Attrs).map encAttr) false)), (.d (.sl ((z9.Kids).map encTpl) false)), v30, v57], .box b5 [(.d (.int .i64 0)), (.d (.int .i64 0)), (.d (.str [])), (.d (.str [])), (.d .nils), (.d .nils), (.d .nils), (.d .nils)], .box b2 [(.d (.sl ((a1.Page.Under).map (D.int .i64)) false)), (.d (.sl ((a1.Page.Kinds).map (D.int .i64)) false)), (.d (.sl ((a1.Page.Ns).map (D.int .i64)) false)), (.d (.sl ((a1.Page.Texts).map (D.int .i64)) false)), (.d (.sl ((a1.Init).map (D.int .i64)) false)), (.d (.sl ((a1.Adds).map (D.int .i64)) false)), (.d (.bool a1.Outlet))], .grow v30 ((x29).map (D.int .i64)), .grow v57 ((x56).map encOn)] := H55
        unfold porticokeep_Part_Comp_l59 at h
        refine WpC.seq ?_
        refine WpC.seq ?_
        refine WpC.region E.obj rfl ?_
        refine wpO.val rfl (oper_move rfl) rfl ?_
        refine wpO.val rfl (oper_fieldAddr rfl fo44_2 nz27 rfl) rfl ?_
        refine wpO.val rfl (oper_load H55 (i := 2) rfl rfl (part_one ag27 rfl)) rfl ?_
        refine wpO.val rfl (oper_lenL rfl es27) rfl ?_
        refine wpO.val rfl (oper_bin rfl rfl binD_lss) rfl ?_
        refine wpO.val rfl (oper_move rfl) rfl ?_
        refine wpO.groupV 3 37 (.d (.bool ((decide (x58 < ((a1.Adds).length : Int))) && (decide (x58 < 5))))) ?_ ?_
        ·
          rcases Bool.eq_false_or_eq_true ((decide (x58 < ((a1.Adds).length : Int)))) with hB60 | hB60
          ·
            refine wpO.bool hB60 ?_
            refine wpO.val rfl (oper_move rfl) rfl ?_
            refine wpO.val rfl (oper_bin rfl rfl binD_lss) rfl ?_
            refine wpO.val rfl (oper_pick (b := true) rfl rfl) rfl ?_
            exact wpO.nil ⟨_, rfl, (WeakE.put (WeakE.push rfl (WeakE.push rfl (WeakE.put (.refl _) (Less.eq (by rw [hB60]))))) (Less.eq (by rw [hB60]; rw [Bool.true_and])))⟩
          ·
            refine wpO.bool hB60 ?_
            refine wpO.no rfl rfl ?_
            refine wpO.no rfl rfl ?_
            refine wpO.val rfl (oper_pick (b := false) rfl rfl) rfl ?_
            exact wpO.nil ⟨_, rfl, (WeakE.put (WeakE.push rfl (WeakE.push rfl (WeakE.put (.refl _) (Less.eq (by rw [hB60]))))) (Less.eq (by rw [hB60]; rw [Bool.false_and])))⟩
        ·
          refine wpO.nil ?_
          refine WpC.cond rfl (fun hb61 => ?_) (fun hb61 => ?_)
          ·
            replace h := if_t hb61 h
            refine WpC.skip ?_
            refine WpC.seq ?_
            refine WpC.block ?_
            obtain ⟨z62, hzz62, h⟩ := bind_some h
            obtain ⟨z63, hzz63, h⟩ := bind_some h
            obtain ⟨z64, hzz64, h⟩ := bind_some h
            obtain ⟨z65, hzz65, h⟩ := bind_some h
            obtain ⟨z66, hzz66, h⟩ := bind_some h
            obtain ⟨z67, hzz67, h⟩ := bind_some h
            obtain ⟨z68, hzz68, h⟩ := bind_some h
            refine WpC.drawP E.obj hmix [[(3, none)], [(40, some 0)], [(5, none)], [(6, none)], [(43, some 3)], [(42, some 2), (44, some 4)], [(45, some 5)], [(1, none)], [(47, some 7)], [(6, none)], [(48, some 8), (49, some 9)], [(50, some 10)], [(51, some 11)], [(1, none)], [(53, some 13)], [(6, none)], [(54, some 14), (55, some 15)], [(56, some 16)], [(57, some 17)], [(58, some 18)], [(46, some 6), (52, some 12), (59, some 19)], [(60, some 20)], [(41, some 1), (61, some 21)], [(3, none)], [(62, some 22), (63, some 23)]] [(1, none), (2, none), (3, none), (5, none), (6, none)] (by kernel_rfl) [22, 24] (by decide) [some (.ptr b15 0 7), some v57, some (.d (.sl (([[117, 112], [100, 111, 119, 110], [97]]).map D.str) true)), some (.d (.int .i64 x58)), some (.d (.int .i64 z62)), some (.eptr (.str z63) 0), some (.d (.str z63)), some (.ptr b2 0 5), some (.d (.sl ((a1.Adds).map (D.int .i64)) false)), some (.d (.int .i64 x58)), some (.eptr (.int .i64 z64) 0), some (.d (.int .i64 z64)), some (.d (.int .i64 z65)), some (.ptr b2 0 5), some (.d (.sl ((a1.Adds).map (D.int .i64)) false)), some (.d (.int .i64 x58)), some (.eptr (.int .i64 z64) 0), some (.d (.int .i64 z64)), some (.d (.int .i64 z66)), some (.d (.int .i64 z67)), some (.d (encOn (On.mk z63 z65 z67))), some (.d (.sl (([(On.mk z63 z65 z67)]).map encOn) true)), none, none, none] ?_
            refine ⟨[0, 1, 2, 3, 4, 5, 6, 7, 8, 9, 10, 11, 12, 13, 14, 15, 16, 17, 18, 19, 20, 21], by kernel_rfl, ?_, _, _, rfl, rfl, .step ?_⟩
            ·
              refine .cons rfl rfl rfl (.step ?_) ?_
              ·
                refine wpO.val rfl (oper_fieldAddr rfl fo32_2 nz30 rfl) rfl ?_
                exact wpO.nil ⟨_, _, rfl, fun _ ht => by cases ht; exact ⟨rfl, .refl _⟩⟩
              refine .cons rfl rfl rfl (.step ?_) ?_
              ·
                refine wpO.val rfl (oper_load H55 (i := 0) rfl rfl (part_one ag30 rfl)) rfl ?_
                exact wpO.nil ⟨_, _, rfl, fun _ ht => by cases ht; exact ⟨rfl, .refl _⟩⟩
              refine .cons rfl rfl rfl (.step ?_) ?_
              ·
                refine wpO.val rfl (oper_move rfl) rfl ?_
                exact wpO.nil ⟨_, _, rfl, fun _ ht => by cases ht; exact ⟨rfl, .refl _⟩⟩
              refine .cons rfl rfl rfl (.step ?_) ?_
              ·
                refine wpO.val rfl (oper_move rfl) rfl ?_
                exact wpO.nil ⟨_, _, rfl, fun _ ht => by cases ht; exact ⟨rfl, .refl _⟩⟩
              refine .cons rfl rfl rfl (.step ?_) ?_
              ·
                refine wpO.val rfl (oper_bin rfl rfl (binD_remI hzz62)) rfl ?_
                exact wpO.nil ⟨_, _, rfl, fun _ ht => by cases ht; exact ⟨rfl, .refl _⟩⟩
              refine .cons rfl rfl rfl (.step ?_) ?_
              ·
                refine wpO.val rfl (oper_idx rfl rfl (idxAddr (enc := D.str) hzz63 el45 as9 (((fun _ => rfl) _).trans sz9.symm))) rfl ?_
                exact wpO.nil ⟨_, _, rfl, fun _ ht => by cases ht; exact ⟨rfl, .refl _⟩⟩
              refine .cons rfl rfl rfl (.step ?_) ?_
              ·
                refine wpO.val rfl (oper_loadE rfl (partD_one ag9 rfl)) rfl ?_
                exact wpO.nil ⟨_, _, rfl, fun _ ht => by cases ht; exact ⟨rfl, .refl _⟩⟩
              refine .cons rfl rfl rfl (.step ?_) ?_
              ·
                refine wpO.val rfl (oper_fieldAddr rfl fo44_2 nz27 rfl) rfl ?_
                exact wpO.nil ⟨_, _, rfl, fun _ ht => by cases ht; exact ⟨rfl, .refl _⟩⟩
              refine .cons rfl rfl rfl (.step ?_) ?_
              ·
                refine wpO.val rfl (oper_load H55 (i := 2) rfl rfl (part_one ag27 rfl)) rfl ?_
                exact wpO.nil ⟨_, _, rfl, fun _ ht => by cases ht; exact ⟨rfl, .refl _⟩⟩
              refine .cons rfl rfl rfl (.step ?_) ?_
              ·
                refine wpO.val rfl (oper_move rfl) rfl ?_
                exact wpO.nil ⟨_, _, rfl, fun _ ht => by cases ht; exact ⟨rfl, .refl _⟩⟩
              refine .cons rfl rfl rfl (.step ?_) ?_
              ·
                refine wpO.val rfl (oper_idx rfl rfl (idxAddr (enc := (D.int .i64)) hzz64 el27 as3 (((fun _ => rfl) _).trans sz3.symm))) rfl ?_
                exact wpO.nil ⟨_, _, rfl, fun _ ht => by cases ht; exact ⟨rfl, .refl _⟩⟩
              refine .cons rfl rfl rfl (.step ?_) ?_
              ·
                refine wpO.val rfl (oper_loadE rfl (partD_one ag3 rfl)) rfl ?_
                exact wpO.nil ⟨_, _, rfl, fun _ ht => by cases ht; exact ⟨rfl, .refl _⟩⟩
              refine .cons rfl rfl rfl (.step ?_) ?_
              ·
                refine wpO.ret rfl (oper_callF rfl rfl) (porticobook_Within_ok E _ _ _ _ _ hzz65 _ _ (ArgsC.eq (ArgsC.eq (ArgsC.eq .nil)))) rfl ?_
                exact wpO.nil ⟨_, _, rfl, fun _ ht => by cases ht; exact ⟨rfl, .refl _⟩⟩
              refine .cons rfl rfl rfl (.step ?_) ?_
              ·
                refine wpO.val rfl (oper_fieldAddr rfl fo44_2 nz27 rfl) rfl ?_
                exact wpO.nil ⟨_, _, rfl, fun _ ht => by cases ht; exact ⟨rfl, .refl _⟩⟩
              refine .cons rfl rfl rfl (.step ?_) ?_
              ·
                refine wpO.val rfl (oper_load H55 (i := 2) rfl rfl (part_one ag27 rfl)) rfl ?_
                exact wpO.nil ⟨_, _, rfl, fun _ ht => by cases ht; exact ⟨rfl, .refl _⟩⟩
              refine .cons rfl rfl rfl (.step ?_) ?_
              ·
                refine wpO.val rfl (oper_move rfl) rfl ?_
                exact wpO.nil ⟨_, _, rfl, fun _ ht => by cases ht; exact ⟨rfl, .refl _⟩⟩
              refine .cons rfl rfl rfl (.step ?_) ?_
              ·
                refine wpO.val rfl (oper_idx rfl rfl (idxAddr (enc := (D.int .i64)) hzz64 el27 as3 (((fun _ => rfl) _).trans sz3.symm))) rfl ?_
                exact wpO.nil ⟨_, _, rfl, fun _ ht => by cases ht; exact ⟨rfl, .refl _⟩⟩
              refine .cons rfl rfl rfl (.step ?_) ?_
              ·
                refine wpO.val rfl (oper_loadE rfl (partD_one ag3 rfl)) rfl ?_
                exact wpO.nil ⟨_, _, rfl, fun _ ht => by cases ht; exact ⟨rfl, .refl _⟩⟩
              refine .cons rfl rfl rfl (.step ?_) ?_
              ·
                refine wpO.val rfl (oper_bin rfl rfl (binD_quoI hzz66)) rfl ?_
                exact wpO.nil ⟨_, _, rfl, fun _ ht => by cases ht; exact ⟨rfl, .refl _⟩⟩
              refine .cons rfl rfl rfl (.step ?_) ?_
              ·
                refine wpO.ret rfl (oper_callF rfl rfl) (porticobook_Within_ok E _ _ _ _ _ hzz67 _ _ (ArgsC.eq (ArgsC.eq (ArgsC.eq .nil)))) rfl ?_
                exact wpO.nil ⟨_, _, rfl, fun _ ht => by cases ht; exact ⟨rfl, .refl _⟩⟩
              refine .cons rfl rfl rfl (.step ?_) ?_
              ·
                refine wpO.val rfl (oper_build (cs := [(.d (.str z63)), (.d (.int .i64 z65)), (.d (.int .i64 z67))]) zo29 rfl (place_struct29) (fill1 rfl rfl rfl rfl (fill1 rfl rfl rfl rfl (fill1 rfl rfl rfl rfl rfl)))) rfl ?_
                refine wpO.less (Less.agg' (d := encOn (On.mk z63 z65 z67)) (CellsC.eq rfl (CellsC.eq rfl (CellsC.eq rfl .nil))) ((On.eq _).trans rfl)) ?_
                exact wpO.nil ⟨_, _, rfl, fun _ ht => by cases ht; exact ⟨rfl, .refl _⟩⟩
              refine .cons rfl rfl rfl (.step ?_) ?_
              ·
                refine wpO.val rfl (oper_buildSlice (vs := [(.d (encOn (On.mk z63 z65 z67)))]) (ds := [(encOn (On.mk z63 z65 z67))]) rw30 el30 ag29 zo29 sz29 rfl (by decide) (.cons rfl (On.len _) .nil) rfl (by intro d hd; simp only [List.mem_cons, List.not_mem_nil, or_false] at hd; rcases hd with rfl <;> exact On.agg _) rfl) rfl ?_
                exact wpO.nil ⟨_, _, rfl, fun _ ht => by cases ht; exact ⟨rfl, .refl _⟩⟩
              exact .nil
            refine wpO.append (xs := (x56).map encOn) (ys := ([(On.mk z63 z65 z67)]).map encOn) (zs := (z68).map encOn) H55 rfl rfl rfl (i := 4) rfl rfl rw30 os30 el30 (app_bound hzz68) nb29 rfl (sizes_map (enc := encOn) (fun z => (On.len z).trans sz29.symm) _) (sizes_map (enc := encOn) (fun z => (On.len z).trans sz29.symm) _) zk29 rfl (app_eq hzz68) (fun v74 S75 H76 => ?_)
            refine wpO.nil ⟨_, _, _, rfl, (fun _ ht => by cases ht; rfl), [some (.ptr b15 0 7), some v57, some (.d (.sl (([[117, 112], [100, 111, 119, 110], [97]]).map D.str) true)), some (.d (.int .i64 x58)), some (.d (.int .i64 z62)), some (.eptr (.str z63) 0), some (.d (.str z63)), some (.ptr b2 0 5), some (.d (.sl ((a1.Adds).map (D.int .i64)) false)), some (.d (.int .i64 x58)), some (.eptr (.int .i64 z64) 0), some (.d (.int .i64 z64)), some (.d (.int .i64 z65)), some (.ptr b2 0 5), some (.d (.sl ((a1.Adds).map (D.int .i64)) false)), some (.d (.int .i64 x58)), some (.eptr (.int .i64 z64) 0), some (.d (.int .i64 z64)), some (.d (.int .i64 z66)), some (.d (.int .i64 z67)), some (.d (encOn (On.mk z63 z65 z67))), some (.d (.sl (([(On.mk z63 z65 z67)]).map encOn) true)), some v74, some (.ptr b15 0 7), none], (.old (.refl _) (.old (.refl _) (.old (.refl _) (.old (.refl _) (.old (.refl _) (.old (.refl _) (.old (.refl _) (.old (.refl _) (.old (.refl _) (.old (.refl _) (.old (.refl _) (.old (.refl _) (.old (.refl _) (.old (.refl _) (.old (.refl _) (.old (.refl _) (.old (.refl _) (.old (.refl _) (.old (.refl _) (.old (.refl _) (.old (.refl _) (.old (.refl _) (.new (.new (.new .nil))))))))))))))))))))))))), (fun _ ht => by cases ht; exact ⟨_, rfl, .refl _⟩), ?_⟩
            refine ⟨[23], by kernel_rfl, ?_, _, _, rfl, rfl, .step ?_⟩
            ·
              refine .cons rfl rfl rfl (.step ?_) ?_
              ·
                refine wpO.val rfl (oper_fieldAddr rfl fo32_2 nz30 rfl) rfl ?_
                exact wpO.nil ⟨_, _, rfl, fun _ ht => by cases ht; exact ⟨rfl, .refl _⟩⟩
              exact .nil
            refine wpO.store H76 (i := 0) rfl rfl rfl rfl (grow_toD (H76.at (i := 4) rfl)).2.2.2.2 rfl sz30 (grow_toD (H76.at (i := 4) rfl)).2.2.2.1 as30 rfl rfl rfl (fun S77 H78 => ?_)
            refine wpO.nil ⟨_, .any, _, rfl, (fun _ ht => by cases ht), [some (.ptr b15 0 7), some v57, some (.d (.sl (([[117, 112], [100, 111, 119, 110], [97]]).map D.str) true)), some (.d (.int .i64 x58)), some (.d (.int .i64 z62)), some (.eptr (.str z63) 0), some (.d (.str z63)), some (.ptr b2 0 5), some (.d (.sl ((a1.Adds).map (D.int .i64)) false)), some (.d (.int .i64 x58)), some (.eptr (.int .i64 z64) 0), some (.d (.int .i64 z64)), some (.d (.int .i64 z65)), some (.ptr b2 0 5), some (.d (.sl ((a1.Adds).map (D.int .i64)) false)), some (.d (.int .i64 x58)), some (.eptr (.int .i64 z64) 0), some (.d (.int .i64 z64)), some (.d (.int .i64 z66)), some (.d (.int .i64 z67)), some (.d (encOn (On.mk z63 z65 z67))), some (.d (.sl (([(On.mk z63 z65 z67)]).map encOn) true)), some v74, some (.ptr b15 0 7), some .any], (.old (.refl _) (.old (.refl _) (.old (.refl _) (.old (.refl _) (.old (.refl _) (.old (.refl _) (.old (.refl _) (.old (.refl _) (.old (.refl _) (.old (.refl _) (.old (.refl _) (.old (.refl _) (.old (.refl _) (.old (.refl _) (.old (.refl _) (.old (.refl _) (.old (.refl _) (.old (.refl _) (.old (.refl _) (.old (.refl _) (.old (.refl _) (.old (.refl _) (.old (.refl _) (.old (.refl _) (.new .nil))))))))))))))))))))))))), (fun _ ht => by cases ht), ?_⟩
            refine ⟨[], by kernel_rfl, ?_, _, rfl, ?_⟩
            ·
              exact .nil
            refine WpC.region E.obj rfl ?_
            refine wpO.val rfl (oper_move rfl) rfl ?_
            refine wpO.val rfl (oper_bin rfl rfl binD_add) rfl ?_
            refine wpO.val rfl (oper_assign rfl) rfl ?_
            refine wpO.nil ?_
            exact ⟨⟨z68, v74, (IntKind.wrap .i64 (x58 + 1))⟩, _, _, S77, .refl _ _, .refl _, (WeakE.cons rfl (.refl _) (WeakE.cons rfl (.refl _) (WeakE.cons rfl (.refl _) (WeakE.cons rfl (.refl _) (WeakE.cons rfl (.refl _) WeakE.nil))))), H78.sel [0, 1, 2, 3, 4] (by decide) rfl, h⟩
          ·
            replace h := if_f hb61 h
            refine WpC.exit ?_
            refine WpC.seq ?_
            refine WpC.region E.obj rfl ?_
            refine wpO.val rfl (oper_load H55 (i := 0) rfl rfl (part_agg ag32 sz32 rfl)) rfl ?_
            refine wpO.less (Less.agg' (d := encComp (Comp.mk z9 x29 x56)) (CellsC.eq rfl (CellsC.eq rfl (CellsC.eq rfl (CellsC.eq rfl (CellsC.eq rfl (CellsC.eq rfl (CellsC.grow H55 (i := 3) rfl (CellsC.grow H55 (i := 4) rfl .nil)))))))) ((Comp.eq _).trans rfl)) ?_
            refine wpO.store H55 (i := 1) rfl rfl rfl rfl (Comp.cellsA _) rfl sz32 rfl as32 rfl rfl rfl (fun S79 H80 => ?_)
            refine wpO.nil ?_
            have hr := Option.some.inj h
            subst hr
            exact WpC.ret ⟨_, resultsE_cell H80 (i := 1) rfl rfl rfl (part_agg ag32 sz32 rfl), rfl, end1 (ArgsC.less_agg (d := encComp (Comp.mk z9 x29 x56)) (CellsC.eq rfl (CellsC.eq rfl (CellsC.eq rfl (CellsC.eq rfl (CellsC.eq rfl (CellsC.eq rfl (CellsC.eq rfl (CellsC.eq rfl .nil)))))))) ((Comp.eq _).trans rfl))⟩
set_option maxRecDepth 20000 in
set_option maxHeartbeats 4000000 in
theorem comp_Instance_Copy_ok (n : Nat) (a2 : comp_Instance) (r : (Option comp_Instance)) (h : comp_Instance_Copy n a2 = some r) (b1 : Nat) : SpecM R cfg.P 14 [.ptr b1 0 0] [.box b1 [(.d (.int .i64 a2.tpl.Kind)), (.d (.int .i64 a2.tpl.N)), (.d (.str a2.tpl.Tag)), (.d (.str a2.tpl.Text)), (.d (.sl ((a2.tpl.Attrs).map encAttr) false)), (.d (.sl ((a2.tpl.Kids).map encTpl) false)), (.d (.sl ((a2.on_).map encOn) false)), (.d (.sl ((a2.state).map (D.int .i64)) false))]] (fun v l => match r with | none => v = .d .nilp ∧ l = [.box b1 [.d (.int .i64 a2.tpl.Kind), .d (.int .i64 a2.tpl.N), .d (.str a2.tpl.Tag), .d (.str a2.tpl.Text), .d (.sl ((a2.tpl.Attrs).map encAttr) false), .d (.sl ((a2.tpl.Kids).map encTpl) false), .d (.sl ((a2.on_).map encOn) false), .d (.sl ((a2.state).map (D.int .i64)) false)]] | some x => ∃ b, v = .ptr b 0 0 ∧ l = .box b [.d (.int .i64 x.tpl.Kind), .d (.int .i64 x.tpl.N), .d (.str x.tpl.Tag), .d (.str x.tpl.Text), .d (.sl ((x.tpl.Attrs).map encAttr) false), .d (.sl ((x.tpl.Kids).map encTpl) false), .d (.sl ((x.on_).map encOn) false), .d (.sl ((x.state).map (D.int .i64)) false)] :: [.box b1 [.d (.int .i64 a2.tpl.Kind), .d (.int .i64 a2.tpl.N), .d (.str a2.tpl.Tag), .d (.str a2.tpl.Text), .d (.sl ((a2.tpl.Attrs).map encAttr) false), .d (.sl ((a2.tpl.Kids).map encTpl) false), .d (.sl ((a2.on_).map encOn) false), .d (.sl ((a2.state).map (D.int .i64)) false)]]) := by
  unfold comp_Instance_Copy at h
  refine SpecM.of_wp (C := cfg) Tryd.func14 rfl nm14 rfl (fun B0 S0 H0 => ?_)
  replace H0 : Has B0 S0 [.box b1 [(.d (.int .i64 a2.tpl.Kind)), (.d (.int .i64 a2.tpl.N)), (.d (.str a2.tpl.Tag)), (.d (.str a2.tpl.Text)), (.d (.sl ((a2.tpl.Attrs).map encAttr) false)), (.d (.sl ((a2.tpl.Kids).map encTpl) false)), (.d (.sl ((a2.on_).map encOn) false)), (.d (.sl ((a2.state).map (D.int .i64)) false))]] := H0
  refine WpC.seq ?_
  refine WpC.region E.obj rfl ?_
  refine wpO.val rfl (oper_assign rfl) rfl ?_
  refine wpO.nil ?_
  refine WpC.seq ?_
  obtain ⟨z3, hzz3, h⟩ := bind_some h
  obtain ⟨z4, hzz4, h⟩ := bind_some h
  obtain ⟨z5, hzz5, h⟩ := bind_some h
  refine WpC.drawP E.obj hmix [[(0, none)], [(3, some 0)], [(4, some 1)], [(5, some 2)], [(6, some 3)], [(0, none)], [(8, some 5)], [(9, some 6)], [(10, some 7)], [(11, some 8)], [(0, none)], [(13, some 10)], [(7, some 4), (12, some 9), (14, some 11)], [(15, some 12)], [(16, some 13)]] [(2, some 14)] (by kernel_rfl) [11, 13] (by decide) [some (.ptr b1 0 0), some (.ptr b1 0 0), some (.ptr b1 0 0), some (.d (encTpl a2.tpl)), some (.d (encTpl z3)), some (.ptr b1 0 0), some (.ptr b1 0 0), some (.ptr b1 0 6), some (.d (.sl ((a2.on_).map encOn) false)), some (.d (.sl ((z4).map encOn) false)), some (.ptr b1 0 0), none, none, none, none] ?_
  refine ⟨[0, 1, 2, 3, 4, 5, 6, 7, 8, 9, 10], by kernel_rfl, ?_, _, _, rfl, rfl, .step ?_⟩
  ·
    refine .cons rfl rfl rfl (.step ?_) ?_
    ·
      refine wpO.val rfl (oper_move rfl) rfl ?_
      exact wpO.nil ⟨_, _, rfl, fun _ ht => by cases ht; exact ⟨rfl, .refl _⟩⟩
    refine .cons rfl rfl rfl (.step ?_) ?_
    ·
      refine wpO.val rfl (oper_nilCheck rfl) rfl ?_
      exact wpO.nil ⟨_, _, rfl, fun _ ht => by cases ht; exact ⟨rfl, .refl _⟩⟩
    refine .cons rfl rfl rfl (.step ?_) ?_
    ·
      refine wpO.val rfl (oper_fieldAddr rfl fo53_0 nz26 rfl) rfl ?_
      exact wpO.nil ⟨_, _, rfl, fun _ ht => by cases ht; exact ⟨rfl, .refl _⟩⟩
    refine .cons rfl rfl rfl (.step ?_) ?_
    ·
      refine wpO.val rfl (oper_load H0 (i := 0) rfl rfl (part_agg ag26 sz26 rfl)) rfl ?_
      refine wpO.less (Less.agg' (d := encTpl a2.tpl) (CellsC.eq rfl (CellsC.eq rfl (CellsC.eq rfl (CellsC.eq rfl (CellsC.eq rfl (CellsC.eq rfl .nil)))))) ((Tpl.eq _).trans rfl)) ?_
      exact wpO.nil ⟨_, _, rfl, fun _ ht => by cases ht; exact ⟨rfl, .refl _⟩⟩
    refine .cons rfl rfl rfl (.step ?_) ?_
    ·
      refine wpO.ret rfl (oper_callF rfl rfl) (comp_copied_ok E _ _ _ hzz3 _ _ (ArgsC.eq .nil)) rfl ?_
      exact wpO.nil ⟨_, _, rfl, fun _ ht => by cases ht; exact ⟨rfl, .refl _⟩⟩
    refine .cons rfl rfl rfl (.step ?_) ?_
    ·
      refine wpO.val rfl (oper_move rfl) rfl ?_
      exact wpO.nil ⟨_, _, rfl, fun _ ht => by cases ht; exact ⟨rfl, .refl _⟩⟩
    refine .cons rfl rfl rfl (.step ?_) ?_
    ·
      refine wpO.val rfl (oper_nilCheck rfl) rfl ?_
      exact wpO.nil ⟨_, _, rfl, fun _ ht => by cases ht; exact ⟨rfl, .refl _⟩⟩
    refine .cons rfl rfl rfl (.step ?_) ?_
    ·
      refine wpO.val rfl (oper_fieldAddr rfl fo53_1 nz30 rfl) rfl ?_
      exact wpO.nil ⟨_, _, rfl, fun _ ht => by cases ht; exact ⟨rfl, .refl _⟩⟩
    refine .cons rfl rfl rfl (.step ?_) ?_
    ·
      refine wpO.val rfl (oper_load H0 (i := 0) rfl rfl (part_one ag30 rfl)) rfl ?_
      exact wpO.nil ⟨_, _, rfl, fun _ ht => by cases ht; exact ⟨rfl, .refl _⟩⟩
    refine .cons rfl rfl rfl (.step ?_) ?_
    ·
      refine wpO.ret rfl (oper_callF rfl rfl) (slices_Clone__api_On_api_On__ok E _ _ _ hzz4 _ _ (ArgsC.eq .nil)) rfl ?_
      exact wpO.nil ⟨_, _, rfl, fun _ ht => by cases ht; exact ⟨rfl, .refl _⟩⟩
    refine .cons rfl rfl rfl (.step ?_) ?_
    ·
      refine wpO.val rfl (oper_move rfl) rfl ?_
      exact wpO.nil ⟨_, _, rfl, fun _ ht => by cases ht; exact ⟨rfl, .refl _⟩⟩
    exact .nil
  refine wpO.retM (ins := [.box b1 [(.d (.int .i64 a2.tpl.Kind)), (.d (.int .i64 a2.tpl.N)), (.d (.str a2.tpl.Tag)), (.d (.str a2.tpl.Text)), (.d (.sl ((a2.tpl.Attrs).map encAttr) false)), (.d (.sl ((a2.tpl.Kids).map encTpl) false)), (.d (.sl ((a2.on_).map encOn) false)), (.d (.sl ((a2.state).map (D.int .i64)) false))]]) (more := []) (H0.sel [0] (by decide) rfl) rfl (oper_callF rfl rfl) (comp_Instance_State_ok E n _ _ hzz5 b1) (.cons (.refl _) .nil) rfl ?_
  rintro _ S11 _ ⟨rfl, rfl⟩ H12
  replace H12 : Has B0 S11 [.box b1 [(.d (.int .i64 a2.tpl.Kind)), (.d (.int .i64 a2.tpl.N)), (.d (.str a2.tpl.Tag)), (.d (.str a2.tpl.Text)), (.d (.sl ((a2.tpl.Attrs).map encAttr) false)), (.d (.sl ((a2.tpl.Kids).map encTpl) false)), (.d (.sl ((a2.on_).map encOn) false)), (.d (.sl ((a2.state).map (D.int .i64)) false))]] := H12
  refine wpO.nil ⟨_, _, _, rfl, (fun _ ht => by cases ht; rfl), [some (.ptr b1 0 0), some (.ptr b1 0 0), some (.ptr b1 0 0), some (.d (encTpl a2.tpl)), some (.d (encTpl z3)), some (.ptr b1 0 0), some (.ptr b1 0 0), some (.ptr b1 0 6), some (.d (.sl ((a2.on_).map encOn) false)), some (.d (.sl ((z4).map encOn) false)), some (.ptr b1 0 0), some (.d (.sl ((z5).map (D.int .i64)) false)), some (.d (enccomp_Instance (comp_Instance.mk z3 z4 z5))), none, none], (.old (.refl _) (.old (.refl _) (.old (.refl _) (.old (.refl _) (.old (.refl _) (.old (.refl _) (.old (.refl _) (.old (.refl _) (.old (.refl _) (.old (.refl _) (.old (.refl _) (.new (.new (.new (.new .nil))))))))))))))), (fun _ ht => by cases ht; exact ⟨_, rfl, .refl _⟩), ?_⟩
  refine ⟨[12], by kernel_rfl, ?_, _, _, rfl, rfl, .step ?_⟩
  ·
    refine .cons rfl rfl rfl (.step ?_) ?_
    ·
      refine wpO.val rfl (oper_build (cs := [(.d (.int .i64 z3.Kind)), (.d (.int .i64 z3.N)), (.d (.str z3.Tag)), (.d (.str z3.Text)), (.d (.sl ((z3.Attrs).map encAttr) false)), (.d (.sl ((z3.Kids).map encTpl) false)), (.d (.sl ((z4).map encOn) false)), (.d (.sl ((z5).map (D.int .i64)) false))]) zo53 rfl (place_struct53) (fill1 rfl (cellsP_d (Tpl.cellsA _)) rfl rfl (fill1 rfl rfl rfl rfl (fill1 rfl rfl rfl rfl rfl)))) rfl ?_
      refine wpO.less (Less.agg' (d := enccomp_Instance (comp_Instance.mk z3 z4 z5)) (CellsC.eq rfl (CellsC.eq rfl (CellsC.eq rfl (CellsC.eq rfl (CellsC.eq rfl (CellsC.eq rfl (CellsC.eq rfl (CellsC.eq rfl .nil)))))))) ((comp_Instance.eq _).trans rfl)) ?_
      exact wpO.nil ⟨_, _, rfl, fun _ ht => by cases ht; exact ⟨rfl, .refl _⟩⟩
    exact .nil
  refine wpO.box H12 rfl rfl rfl (comp_Instance.cellsA _) rfl (fun b13 S14 H15 => ?_)
  refine wpO.nil ⟨_, _, _, rfl, (fun _ ht => by cases ht; rfl), [some (.ptr b1 0 0), some (.ptr b1 0 0), some (.ptr b1 0 0), some (.d (encTpl a2.tpl)), some (.d (encTpl z3)), some (.ptr b1 0 0), some (.ptr b1 0 0), some (.ptr b1 0 6), some (.d (.sl ((a2.on_).map encOn) false)), some (.d (.sl ((z4).map encOn) false)), some (.ptr b1 0 0), some (.d (.sl ((z5).map (D.int .i64)) false)), some (.d (enccomp_Instance (comp_Instance.mk z3 z4 z5))), some (.ptr b13 0 0), some (.ptr b13 0 0)], (.old (.refl _) (.old (.refl _) (.old (.refl _) (.old (.refl _) (.old (.refl _) (.old (.refl _) (.old (.refl _) (.old (.refl _) (.old (.refl _) (.old (.refl _) (.old (.refl _) (.old (.refl _) (.old (.refl _) (.new (.new .nil))))))))))))))), (fun _ ht => by cases ht; exact ⟨_, rfl, .refl _⟩), ?_⟩
  refine ⟨[14], by kernel_rfl, ?_, _, rfl, ?_⟩
  ·
    refine .cons rfl rfl rfl (.step ?_) ?_
    ·
      refine wpO.val rfl (oper_assign rfl) rfl ?_
      exact wpO.nil ⟨_, _, rfl, fun _ ht => by cases ht; exact ⟨rfl, .refl _⟩⟩
    exact .nil
  have hr := Option.some.inj h
  subst hr
  exact WpC.ret ⟨_, rfl, rfl, _, _, _, .refl _, (.refl _), ⟨_, rfl, rfl⟩, H15.sel [0, 1] (by decide) rfl⟩
set_option maxRecDepth 20000 in
set_option maxHeartbeats 4000000 in
theorem porticolaw17_CompHears_ok (n : Nat) (a1 : K_Part) (a2 : (List Str)) (a3 : Bool) (r : Bool) (h : porticolaw17_CompHears n a1 a2 a3 = some r) : SpecC R cfg.P 4 [(encK_Part a1), (.sl ((a2).map D.str) false), (.bool a3)] (.d (.bool r)) := by
  unfold porticolaw17_CompHears at h
  refine SpecC.of_wp (objR1 E).toObjOk (C := cfgR1) Tryd.func4 rfl nm4 rfl ?_
  have H0 : Has pureSt pureSt [] := Has.pure
  refine WpC.seq ?_
  refine WpC.region (objR1 E) rfl ?_
  refine wpO.box H0 rfl rfl rfl (K_Part.cellsA _) rfl (fun b4 S5 H6 => ?_)
  refine wpO.val rfl (oper_assign rfl) rfl ?_
  refine wpO.nil ?_
  refine WpC.seq ?_
  refine WpC.region (objR1 E) rfl ?_
  refine wpO.val rfl (oper_load H6 (i := 0) rfl rfl (part_agg ag44 sz44 rfl)) rfl ?_
  refine wpO.less (Less.agg' (d := encK_Part a1) (CellsC.eq rfl (CellsC.eq rfl (CellsC.eq rfl (CellsC.eq rfl (CellsC.eq rfl (CellsC.eq rfl (CellsC.eq rfl .nil))))))) ((K_Part.eq _).trans rfl)) ?_
  obtain ⟨z7, hzz7, h⟩ := bind_some h
  refine wpO.ret rfl (oper_callF rfl rfl) (porticokeep_Part_Comp_ok E _ _ _ hzz7 _ _ (ArgsC.eq .nil)) rfl ?_
  refine wpO.alloc H6 rfl ob32R1 zo32 rfl rfl (fun b8 S9 H10 => ?_)
  refine wpO.store H10 (i := 0) rfl rfl rfl rfl (Comp.cellsA _) rfl sz32 rfl as32 rfl rfl rfl (fun S11 H12 => ?_)
  refine wpO.nil ?_
  refine WpC.seq ?_
  refine WpC.region (objR1 E) rfl ?_
  refine wpO.val rfl (oper_load H12 (i := 0) rfl rfl (part_agg ag32 sz32 rfl)) rfl ?_
  refine wpO.less (Less.agg' (d := encComp z7) (CellsC.eq rfl (CellsC.eq rfl (CellsC.eq rfl (CellsC.eq rfl (CellsC.eq rfl (CellsC.eq rfl (CellsC.eq rfl (CellsC.eq rfl .nil)))))))) ((Comp.eq _).trans rfl)) ?_
  obtain ⟨z13, hzz13, h⟩ := bind_some h
  refine wpO.retM (ins := []) (more := [.box b8 [(.d (.int .i64 z7.Tpl.Kind)), (.d (.int .i64 z7.Tpl.N)), (.d (.str z7.Tpl.Tag)), (.d (.str z7.Tpl.Text)), (.d (.sl ((z7.Tpl.Attrs).map encAttr) false)), (.d (.sl ((z7.Tpl.Kids).map encTpl) false)), (.d (.sl ((z7.Init).map (D.int .i64)) false)), (.d (.sl ((z7.On).map encOn) false))], .box b4 [(.d (.sl ((a1.Page.Under).map (D.int .i64)) false)), (.d (.sl ((a1.Page.Kinds).map (D.int .i64)) false)), (.d (.sl ((a1.Page.Ns).map (D.int .i64)) false)), (.d (.sl ((a1.Page.Texts).map (D.int .i64)) false)), (.d (.sl ((a1.Init).map (D.int .i64)) false)), (.d (.sl ((a1.Adds).map (D.int .i64)) false)), (.d (.bool a1.Outlet))]]) (H12.sel [0, 1] (by decide) rfl) rfl (oper_callF rfl rfl) (comp_New_ok E n _ _ hzz13 ) (.cons (.refl _) .nil) rfl ?_
  rintro v14 S15 l16 hr17 H18
  rcases z13 with _ | x19
  ·
    obtain ⟨rfl, rfl⟩ := hr17
    replace h := optN h
    replace H18 : Has pureSt S15 [.box b8 [(.d (.int .i64 z7.Tpl.Kind)), (.d (.int .i64 z7.Tpl.N)), (.d (.str z7.Tpl.Tag)), (.d (.str z7.Tpl.Text)), (.d (.sl ((z7.Tpl.Attrs).map encAttr) false)), (.d (.sl ((z7.Tpl.Kids).map encTpl) false)), (.d (.sl ((z7.Init).map (D.int .i64)) false)), (.d (.sl ((z7.On).map encOn) false))], .box b4 [(.d (.sl ((a1.Page.Under).map (D.int .i64)) false)), (.d (.sl ((a1.Page.Kinds).map (D.int .i64)) false)), (.d (.sl ((a1.Page.Ns).map (D.int .i64)) false)), (.d (.sl ((a1.Page.Texts).map (D.int .i64)) false)), (.d (.sl ((a1.Init).map (D.int .i64)) false)), (.d (.sl ((a1.Adds).map (D.int .i64)) false)), (.d (.bool a1.Outlet))]] := H18
    refine wpO.val rfl (oper_assign rfl) rfl ?_
    refine wpO.nil ?_
    refine WpC.seq ?_
    refine WpC.seq ?_
    refine WpC.region (objR1 E) rfl ?_
    refine wpO.val rfl (oper_move rfl) rfl ?_
    refine wpO.val rfl (oper_bin rfl rfl (binD_nn up33)) rfl ?_
    refine wpO.val rfl (oper_move rfl) rfl ?_
    refine wpO.no rfl rfl ?_
    refine wpO.no rfl rfl ?_
    refine wpO.no rfl rfl ?_
    refine wpO.val rfl (oper_pick (b := true) rfl rfl) rfl ?_
    refine wpO.nil ?_
    refine WpC.cond rfl (fun hb => ?_) (fun hb => ?_)
    ·
      refine WpC.seq ?_
      refine WpC.region (objR1 E) rfl ?_
      refine wpO.val rfl (oper_assign rfl) rfl ?_
      refine wpO.nil ?_
      have hr := Option.some.inj h
      subst hr
      exact WpC.ret ⟨_, rfl, rfl, end1 (ArgsC.eq .nil)⟩
    ·
      cases hb
  ·
    obtain ⟨b20, rfl, rfl⟩ := hr17
    replace h := optS h
    replace H18 : Has pureSt S15 [.box b20 [(.d (.int .i64 x19.tpl.Kind)), (.d (.int .i64 x19.tpl.N)), (.d (.str x19.tpl.Tag)), (.d (.str x19.tpl.Text)), (.d (.sl ((x19.tpl.Attrs).map encAttr) false)), (.d (.sl ((x19.tpl.Kids).map encTpl) false)), (.d (.sl ((x19.on_).map encOn) false)), (.d (.sl ((x19.state).map (D.int .i64)) false))], .box b8 [(.d (.int .i64 z7.Tpl.Kind)), (.d (.int .i64 z7.Tpl.N)), (.d (.str z7.Tpl.Tag)), (.d (.str z7.Tpl.Text)), (.d (.sl ((z7.Tpl.Attrs).map encAttr) false)), (.d (.sl ((z7.Tpl.Kids).map encTpl) false)), (.d (.sl ((z7.Init).map (D.int .i64)) false)), (.d (.sl ((z7.On).map encOn) false))], .box b4 [(.d (.sl ((a1.Page.Under).map (D.int .i64)) false)), (.d (.sl ((a1.Page.Kinds).map (D.int .i64)) false)), (.d (.sl ((a1.Page.Ns).map (D.int .i64)) false)), (.d (.sl ((a1.Page.Texts).map (D.int .i64)) false)), (.d (.sl ((a1.Init).map (D.int .i64)) false)), (.d (.sl ((a1.Adds).map (D.int .i64)) false)), (.d (.bool a1.Outlet))]] := H18
    refine wpO.val rfl (oper_assign rfl) rfl ?_
    refine wpO.nil ?_
    refine WpC.seq ?_
    refine WpC.seq ?_
    refine WpC.region (objR1 E) rfl ?_
    refine wpO.val rfl (oper_move rfl) rfl ?_
    refine wpO.val rfl (oper_bin rfl rfl (binD_pn up33)) rfl ?_
    refine wpO.val rfl (oper_move rfl) rfl ?_
    refine wpO.val rfl (oper_load H18 (i := 1) rfl rfl (part_agg ag32 sz32 rfl)) rfl ?_
    refine wpO.less (Less.agg' (d := encComp z7) (CellsC.eq rfl (CellsC.eq rfl (CellsC.eq rfl (CellsC.eq rfl (CellsC.eq rfl (CellsC.eq rfl (CellsC.eq rfl (CellsC.eq rfl .nil)))))))) ((Comp.eq _).trans rfl)) ?_
    obtain ⟨z21, hzz21, h⟩ := bind_some h
    refine wpO.ret rfl (oper_callF rfl rfl) (comp_Right_ok E _ _ _ hzz21 _ _ (ArgsC.eq .nil)) rfl ?_
    refine wpO.val rfl (oper_not rfl) rfl ?_
    refine wpO.val rfl (oper_pick (b := false) rfl rfl) rfl ?_
    refine wpO.nil ?_
    refine WpC.cond rfl (fun hb22 => ?_) (fun hb22 => ?_)
    ·
      replace h := if_t hb22 h
      refine WpC.seq ?_
      refine WpC.region (objR1 E) rfl ?_
      refine wpO.val rfl (oper_assign rfl) rfl ?_
      refine wpO.nil ?_
      have hr := Option.some.inj h
      subst hr
      exact WpC.ret ⟨_, rfl, rfl, end1 (ArgsC.eq .nil)⟩
    ·
      replace h := if_f hb22 h
      refine WpC.skip ?_
      refine WpC.seq ?_
      refine WpC.region (objR1 E) rfl ?_
      refine wpO.val rfl (oper_buildSlice0R bs27xR1 el27 ag3) rfl ?_
      refine wpO.val rfl (oper_fieldAddr rfl fo32_1 nz27 rfl) rfl ?_
      refine wpO.val rfl (oper_load H18 (i := 1) rfl rfl (part_one ag27 rfl)) rfl ?_
      have H23 := H18.tightR 1
      obtain ⟨z24, hzz24, h⟩ := bind_some h
      refine wpO.rowAppend (xs := ([]).map (D.int .i64)) (ys := (z7.Init).map (D.int .i64)) (zs := (z24).map (D.int .i64)) H23 rfl rfl rfl (i := 0) rfl sz3 rfl rw27R1 os27R1 el27 (app_bound hzz24) nb3 rfl (sizes_map (enc := (D.int .i64)) (fun _ => sz3.symm) _) (flat_map (fun _ => rfl) _) rfl zk3R1 rfl (app_eq hzz24) (fun v25 S26 H27 => ?_)
      refine wpO.val rfl (oper_assign rfl) rfl ?_
      refine wpO.nil ?_
      refine WpC.seq ?_
      refine WpC.seq ?_
      obtain ⟨SF9, HF9, hgF9⟩ := H27.freeze (objR1 E).toObjOk (i := 0) (l' := [.box b20 [(.d (.int .i64 x19.tpl.Kind)), (.d (.int .i64 x19.tpl.N)), (.d (.str x19.tpl.Tag)), (.d (.str x19.tpl.Text)), (.d (.sl ((x19.tpl.Attrs).map encAttr) false)), (.d (.sl ((x19.tpl.Kids).map encTpl) false)), (.d (.sl ((x19.on_).map encOn) false)), (.d (.sl ((x19.state).map (D.int .i64)) false))], .box b8 [(.d (.int .i64 z7.Tpl.Kind)), (.d (.int .i64 z7.Tpl.N)), (.d (.str z7.Tpl.Tag)), (.d (.str z7.Tpl.Text)), (.d (.sl ((z7.Tpl.Attrs).map encAttr) false)), (.d (.sl ((z7.Tpl.Kids).map encTpl) false)), (.d (.sl ((z7.Init).map (D.int .i64)) false)), (.d (.sl ((z7.On).map encOn) false))], .box b4 [(.d (.sl ((a1.Page.Under).map (D.int .i64)) false)), (.d (.sl ((a1.Page.Kinds).map (D.int .i64)) false)), (.d (.sl ((a1.Page.Ns).map (D.int .i64)) false)), (.d (.sl ((a1.Page.Texts).map (D.int .i64)) false)), (.d (.sl ((a1.Init).map (D.int .i64)) false)), (.d (.sl ((a1.Adds).map (D.int .i64)) false)), (.d (.bool a1.Outlet))]]) rfl (.same (.same (.same .nil)))
      refine WpC.ghost (hgF9 _ _ [(0, (.d (encK_Part a1))), (1, (.d (.sl ((a2).map D.str) false))), (2, (.d (.bool a3))), (3, (.ptr b4 0 0)), (6, (.d (.bool false))), (7, (.ptr b8 0 0)), (8, (.ptr b20 0 0)), (9, (.d (.sl ((z24).map (D.int .i64)) false))), (20, (.d (encK_Part a1))), (21, (.d (encComp z7))), (22, (.d (encComp z7))), (23, (.ptr b20 0 0)), (24, (.ptr b20 0 0)), (25, (.d (.bool false))), (26, (.d (.bool false))), (27, (.d (encComp z7))), (28, (.d (.bool z21))), (29, (.d (.bool (!z21)))), (30, (.d (.bool (!z21)))), (31, (.d (.sl (([]).map (D.int .i64)) true))), (32, (.ptr b8 0 6)), (33, (.d (.sl ((z7.Init).map (D.int .i64)) false))), (34, (.d (.sl ((z24).map (D.int .i64)) false)))] (.cons rfl (.refl _) (.cons rfl (.refl _) (.cons rfl (.refl _) (.cons rfl (.refl _) (.cons rfl (.refl _) (.cons rfl (.refl _) (.cons rfl (.refl _) (.it rfl (.cons rfl (.refl _) (.cons rfl (.refl _) (.cons rfl (.refl _) (.cons rfl (.refl _) (.cons rfl (.refl _) (.cons rfl (.refl _) (.cons rfl (.refl _) (.cons rfl (.refl _) (.cons rfl (.refl _) (.cons rfl (.refl _) (.cons rfl (.refl _) (.cons rfl (.refl _) (.cons rfl (.refl _) (.cons rfl (.refl _) (.it rfl .nil)))))))))))))))))))))))) ?_
      refine WpC.region (objR1 E) rfl ?_
      refine wpO.val rfl (oper_assign rfl) rfl ?_
      refine wpO.nil ?_
      refine WpC.block ?_
      refine WpL.start (B := pureSt) (α := comp_Instance × Nat × (List Int) × Int) (fun k a => porticolaw17_CompHears_l42 n a2 a3 z7 k a.1 a.2.2.1 a.2.2.2 = some r) (fun a => [(1, (.d (.sl ((a2).map D.str) false))), (2, (.d (.bool a3))), (7, (.ptr b8 0 0)), (8, (.ptr a.2.1 0 0)), (9, (.d (.sl ((a.2.2.1).map (D.int .i64)) false))), (10, (.d (.int .i64 a.2.2.2)))]) (fun a => [.box b8 [(.d (.int .i64 z7.Tpl.Kind)), (.d (.int .i64 z7.Tpl.N)), (.d (.str z7.Tpl.Tag)), (.d (.str z7.Tpl.Text)), (.d (.sl ((z7.Tpl.Attrs).map encAttr) false)), (.d (.sl ((z7.Tpl.Kids).map encTpl) false)), (.d (.sl ((z7.Init).map (D.int .i64)) false)), (.d (.sl ((z7.On).map encOn) false))], .box a.2.1 [(.d (.int .i64 a.1.tpl.Kind)), (.d (.int .i64 a.1.tpl.N)), (.d (.str a.1.tpl.Tag)), (.d (.str a.1.tpl.Text)), (.d (.sl ((a.1.tpl.Attrs).map encAttr) false)), (.d (.sl ((a.1.tpl.Kids).map encTpl) false)), (.d (.sl ((a.1.on_).map encOn) false)), (.d (.sl ((a.1.state).map (D.int .i64)) false))]]) ?_ ?_ n ⟨⟨x19, b20, z24, 0⟩, _, _, SF9, .refl _ _, .refl _, (WeakE.cons rfl (.refl _) (WeakE.cons rfl (.refl _) (WeakE.cons rfl (.refl _) (WeakE.cons rfl (.refl _) (WeakE.cons rfl (.refl _) (WeakE.cons rfl (.refl _) WeakE.nil)))))), HF9.sel [1, 0] (by decide) rfl, h⟩
      · intro a h; simp [porticolaw17_CompHears_l42] at h
      ·
        intro k42 a S36 H37 h
        obtain ⟨x38, b39, x40, x41⟩ := a
        replace h : porticolaw17_CompHears_l42 n a2 a3 z7 (k42 + 1) x38 x40 x41 = some r := h
        replace H37 : Has pureSt S36 [.box b8 [(.d (.int .i64 z7.Tpl.Kind)), (.d (.int .i64 z7.Tpl.N)), (.d (.str z7.Tpl.Tag)), (.d (.str z7.Tpl.Text)), (.d (.sl ((z7.Tpl.Attrs).map encAttr) false)), (.d (.sl ((z7.Tpl.Kids).map encTpl) false)), (.d (.sl ((z7.Init).map (D.int .i64)) false)), (.d (.sl ((z7.On).map encOn) false))], .box b39 [(.d (.int .i64 x38.tpl.Kind)), (.d (.int .i64 x38.tpl.N)), (.d (.str x38.tpl.Tag)), (.d (.str x38.tpl.Text)), (.d (.sl ((x38.tpl.Attrs).map encAttr) false)), (.d (.sl ((x38.tpl.Kids).map encTpl) false)), (.d (.sl ((x38.on_).map encOn) false)), (.d (.sl ((x38.state).map (D.int .i64)) false))]] := H37
        unfold porticolaw17_CompHears_l42 at h
        refine WpC.seq ?_
        refine WpC.seq ?_
        refine WpC.region (objR1 E) rfl ?_
        refine wpO.val rfl (oper_move rfl) rfl ?_
        refine wpO.val rfl (oper_move rfl) rfl ?_
        refine wpO.val rfl (oper_lenL rfl es45) rfl ?_
        refine wpO.val rfl (oper_bin rfl rfl binD_lss) rfl ?_
        refine wpO.val rfl (oper_move rfl) rfl ?_
        refine wpO.groupV 3 42 (.d (.bool ((decide (x41 < ((a2).length : Int))) && (decide (x41 < 30))))) ?_ ?_
        ·
          rcases Bool.eq_false_or_eq_true ((decide (x41 < ((a2).length : Int)))) with hB43 | hB43
          ·
            refine wpO.bool hB43 ?_
            refine wpO.val rfl (oper_move rfl) rfl ?_
            refine wpO.val rfl (oper_bin rfl rfl binD_lss) rfl ?_
            refine wpO.val rfl (oper_pick (b := true) rfl rfl) rfl ?_
            exact wpO.nil ⟨_, rfl, (WeakE.put (WeakE.push rfl (WeakE.push rfl (WeakE.put (.refl _) (Less.eq (by rw [hB43]))))) (Less.eq (by rw [hB43]; rw [Bool.true_and])))⟩
          ·
            refine wpO.bool hB43 ?_
            refine wpO.no rfl rfl ?_
            refine wpO.no rfl rfl ?_
            refine wpO.val rfl (oper_pick (b := false) rfl rfl) rfl ?_
            exact wpO.nil ⟨_, rfl, (WeakE.put (WeakE.push rfl (WeakE.push rfl (WeakE.put (.refl _) (Less.eq (by rw [hB43]))))) (Less.eq (by rw [hB43]; rw [Bool.false_and])))⟩
        ·
          refine wpO.nil ?_
          refine WpC.cond rfl (fun hb44 => ?_) (fun hb44 => ?_)
          ·
            replace h := if_t hb44 h
            refine WpC.skip ?_
            refine WpC.join (B := pureSt) (α := Int × Int × Str × Str × (List Attr) × (List Tpl) × (List On) × (List Int) × comp_Instance × Nat × (List Int)) (fun a => porticolaw17_CompHears_j58 x41 (porticolaw17_CompHears_l42 n a2 a3 z7 k42) a.1 a.2.1 a.2.2.1 a.2.2.2.1 a.2.2.2.2.1 a.2.2.2.2.2.1 a.2.2.2.2.2.2.1 a.2.2.2.2.2.2.2.1 a.2.2.2.2.2.2.2.2.1 a.2.2.2.2.2.2.2.2.2.2 = some r) (fun a => [(1, (.d (.sl ((a2).map D.str) false))), (2, (.d (.bool a3))), (7, (.ptr b8 0 0)), (8, (.ptr a.2.2.2.2.2.2.2.2.2.1 0 0)), (9, (.d (.sl ((a.2.2.2.2.2.2.2.2.2.2).map (D.int .i64)) false))), (10, (.d (.int .i64 x41)))]) (fun a => [.box b8 [(.d (.int .i64 z7.Tpl.Kind)), (.d (.int .i64 z7.Tpl.N)), (.d (.str z7.Tpl.Tag)), (.d (.str z7.Tpl.Text)), (.d (.sl ((z7.Tpl.Attrs).map encAttr) false)), (.d (.sl ((z7.Tpl.Kids).map encTpl) false)), (.d (.sl ((z7.Init).map (D.int .i64)) false)), (.d (.sl ((z7.On).map encOn) false))], .box a.2.2.2.2.2.2.2.2.2.1 [(.d (.int .i64 a.2.2.2.2.2.2.2.2.1.tpl.Kind)), (.d (.int .i64 a.2.2.2.2.2.2.2.2.1.tpl.N)), (.d (.str a.2.2.2.2.2.2.2.2.1.tpl.Tag)), (.d (.str a.2.2.2.2.2.2.2.2.1.tpl.Text)), (.d (.sl ((a.2.2.2.2.2.2.2.2.1.tpl.Attrs).map encAttr) false)), (.d (.sl ((a.2.2.2.2.2.2.2.2.1.tpl.Kids).map encTpl) false)), (.d (.sl ((a.2.2.2.2.2.2.2.2.1.on_).map encOn) false)), (.d (.sl ((a.2.2.2.2.2.2.2.2.1.state).map (D.int .i64)) false))]]) ?_ ?_
            ·
              intro a S45 H46 h
              obtain ⟨x47, x48, x49, x50, x51, x52, x53, x54, x55, b56, x57⟩ := a
              replace h : porticolaw17_CompHears_j58 x41 (porticolaw17_CompHears_l42 n a2 a3 z7 k42) x47 x48 x49 x50 x51 x52 x53 x54 x55 x57 = some r := h
              replace H46 : Has pureSt S45 [.box b8 [(.d (.int .i64 z7.Tpl.Kind)), (.d (.int .i64 z7.Tpl.N)), (.d (.str z7.Tpl.Tag)), (.d (.str z7.Tpl.Text)), (.d (.sl ((z7.Tpl.Attrs).map encAttr) false)), (.d (.sl ((z7.Tpl.Kids).map encTpl) false)), (.d (.sl ((z7.Init).map (D.int .i64)) false)), (.d (.sl ((z7.On).map encOn) false))], .box b56 [(.d (.int .i64 x55.tpl.Kind)), (.d (.int .i64 x55.tpl.N)), (.d (.str x55.tpl.Tag)), (.d (.str x55.tpl.Text)), (.d (.sl ((x55.tpl.Attrs).map encAttr) false)), (.d (.sl ((x55.tpl.Kids).map encTpl) false)), (.d (.sl ((x55.on_).map encOn) false)), (.d (.sl ((x55.state).map (D.int .i64)) false))]] := H46
              unfold porticolaw17_CompHears_j58 at h
              refine WpC.region (objR1 E) rfl ?_
              refine wpO.val rfl (oper_move rfl) rfl ?_
              refine wpO.val rfl (oper_bin rfl rfl binD_add) rfl ?_
              refine wpO.val rfl (oper_assign rfl) rfl ?_
              refine wpO.nil ?_
              exact ⟨⟨x55, b56, x57, (IntKind.wrap .i64 (x41 + 1))⟩, _, _, S45, .refl _ _, .refl _, (WeakE.cons rfl (.refl _) (WeakE.cons rfl (.refl _) (WeakE.cons rfl (.refl _) (WeakE.cons rfl (.refl _) (WeakE.cons rfl (.refl _) (WeakE.cons rfl (.refl _) WeakE.nil)))))), H46.sel [0, 1] (by decide) rfl, h⟩
            ·
              refine WpC.block ?_
              refine WpC.seq ?_
              obtain ⟨z59, hzz59, h⟩ := bind_some h
              obtain ⟨z60, hzz60, h⟩ := bind_some h
              refine WpC.drawP (objR1 E) hmix [[(1, none)], [(10, none)], [(45, some 0), (46, some 1)], [(47, some 2)], [(1, none)], [(10, none)], [(49, some 4), (50, some 5)], [(51, some 6)], [(52, some 7)], [(53, some 8)], [(48, some 3), (54, some 9)], [(55, some 10)]] [(1, none), (2, none), (7, none), (8, none), (9, none), (10, none), (11, some 11)] (by kernel_rfl) [] (by decide) [some (.d (.sl ((a2).map D.str) false)), some (.d (.int .i64 x41)), some (.eptr (.str z59) 0), some (.d (.str z59)), some (.d (.sl ((a2).map D.str) false)), some (.d (.int .i64 x41)), some (.eptr (.str z59) 0), some (.d (.str z59)), some (.d (.int .i64 ((z59).length : Int))), some (.d (.int .i64 (minI ((z59).length : Int) 6))), some (.d (.str z60)), some (.d (.str z60))] ?_
              refine ⟨[0, 1, 2, 3, 4, 5, 6, 7, 8, 9, 10, 11], by kernel_rfl, ?_, _, rfl, ?_⟩
              ·
                refine .cons rfl rfl rfl (.step ?_) ?_
                ·
                  refine wpO.val rfl (oper_move rfl) rfl ?_
                  exact wpO.nil ⟨_, _, rfl, fun _ ht => by cases ht; exact ⟨rfl, .refl _⟩⟩
                refine .cons rfl rfl rfl (.step ?_) ?_
                ·
                  refine wpO.val rfl (oper_move rfl) rfl ?_
                  exact wpO.nil ⟨_, _, rfl, fun _ ht => by cases ht; exact ⟨rfl, .refl _⟩⟩
                refine .cons rfl rfl rfl (.step ?_) ?_
                ·
                  refine wpO.val rfl (oper_idx rfl rfl (idxAddr (enc := D.str) hzz59 el45 as9 (((fun _ => rfl) _).trans sz9.symm))) rfl ?_
                  exact wpO.nil ⟨_, _, rfl, fun _ ht => by cases ht; exact ⟨rfl, .refl _⟩⟩
                refine .cons rfl rfl rfl (.step ?_) ?_
                ·
                  refine wpO.val rfl (oper_loadE rfl (partD_one ag9 rfl)) rfl ?_
                  exact wpO.nil ⟨_, _, rfl, fun _ ht => by cases ht; exact ⟨rfl, .refl _⟩⟩
                refine .cons rfl rfl rfl (.step ?_) ?_
                ·
                  refine wpO.val rfl (oper_move rfl) rfl ?_
                  exact wpO.nil ⟨_, _, rfl, fun _ ht => by cases ht; exact ⟨rfl, .refl _⟩⟩
                refine .cons rfl rfl rfl (.step ?_) ?_
                ·
                  refine wpO.val rfl (oper_move rfl) rfl ?_
                  exact wpO.nil ⟨_, _, rfl, fun _ ht => by cases ht; exact ⟨rfl, .refl _⟩⟩
                refine .cons rfl rfl rfl (.step ?_) ?_
                ·
                  refine wpO.val rfl (oper_idx rfl rfl (idxAddr (enc := D.str) hzz59 el45 as9 (((fun _ => rfl) _).trans sz9.symm))) rfl ?_
                  exact wpO.nil ⟨_, _, rfl, fun _ ht => by cases ht; exact ⟨rfl, .refl _⟩⟩
                refine .cons rfl rfl rfl (.step ?_) ?_
                ·
                  refine wpO.val rfl (oper_loadE rfl (partD_one ag9 rfl)) rfl ?_
                  exact wpO.nil ⟨_, _, rfl, fun _ ht => by cases ht; exact ⟨rfl, .refl _⟩⟩
                refine .cons rfl rfl rfl (.step ?_) ?_
                ·
                  refine wpO.val rfl (oper_len rfl (lenTy_str st9) rfl) rfl ?_
                  exact wpO.nil ⟨_, _, rfl, fun _ ht => by cases ht; exact ⟨rfl, .refl _⟩⟩
                refine .cons rfl rfl rfl (.step ?_) ?_
                ·
                  refine wpO.val rfl (oper_min rfl rfl) rfl ?_
                  exact wpO.nil ⟨_, _, rfl, fun _ ht => by cases ht; exact ⟨rfl, .refl _⟩⟩
                refine .cons rfl rfl rfl (.step ?_) ?_
                ·
                  refine wpO.val rfl (oper_scut_h rfl rfl st9 hzz60) rfl ?_
                  exact wpO.nil ⟨_, _, rfl, fun _ ht => by cases ht; exact ⟨rfl, .refl _⟩⟩
                refine .cons rfl rfl rfl (.step ?_) ?_
                ·
                  refine wpO.val rfl (oper_assign rfl) rfl ?_
                  exact wpO.nil ⟨_, _, rfl, fun _ ht => by cases ht; exact ⟨rfl, .refl _⟩⟩
                exact .nil
              refine WpC.seq ?_
              refine WpC.region (objR1 E) rfl ?_
              refine wpO.val rfl (oper_buildSlice0R bs27xR1 el27 ag3) rfl ?_
              refine wpO.val rfl (oper_move rfl) rfl ?_
              have H61 := H37.tightR 1
              obtain ⟨z62, hzz62, h⟩ := bind_some h
              refine wpO.rowAppend (xs := ([]).map (D.int .i64)) (ys := (x40).map (D.int .i64)) (zs := (z62).map (D.int .i64)) H61 rfl rfl rfl (i := 0) rfl sz3 rfl rw27R1 os27R1 el27 (app_bound hzz62) nb3 rfl (sizes_map (enc := (D.int .i64)) (fun _ => sz3.symm) _) (flat_map (fun _ => rfl) _) rfl zk3R1 rfl (app_eq hzz62) (fun v63 S64 H65 => ?_)
              refine wpO.val rfl (oper_assign rfl) rfl ?_
              refine wpO.nil ?_
              refine WpC.seq ?_
              refine WpC.region (objR1 E) rfl ?_
              refine wpO.val rfl (oper_assign rfl) rfl ?_
              refine wpO.val rfl (oper_assign rfl) rfl ?_
              refine wpO.nil ?_
              refine WpC.seq ?_
              refine WpC.seq ?_
              refine WpC.region (objR1 E) rfl ?_
              refine wpO.val rfl (oper_fieldAddr rfl fo32_2 nz30 rfl) rfl ?_
              refine wpO.val rfl (oper_load H65 (i := 1) rfl rfl (part_one ag30 rfl)) rfl ?_
              refine wpO.val rfl (oper_lenL rfl es30) rfl ?_
              refine wpO.val rfl (oper_move rfl) rfl ?_
              refine wpO.nil ?_
              refine WpC.block ?_
              refine WpL.start (B := pureSt) (α := (List Int) × Bool × Bool × Int) (fun k a => porticolaw17_CompHears_l80 n a3 z7 x38 x40 x41 (porticolaw17_CompHears_l42 n a2 a3 z7 k42) z60 k a.1 a.2.1 a.2.2.1 a.2.2.2 = some r) (fun a => [(1, (.d (.sl ((a2).map D.str) false))), (2, (.d (.bool a3))), (7, (.ptr b8 0 0)), (8, (.ptr b39 0 0)), (9, (.d (.sl ((x40).map (D.int .i64)) false))), (10, (.d (.int .i64 x41))), (11, (.d (.str z60))), (12, v63), (13, (.d (.bool a.2.1))), (14, (.d (.bool a.2.2.1))), (60, (.d (.sl ((z7.On).map encOn) false))), (61, (.d (.int .i64 ((z7.On).length : Int)))), (62, (.d (.int .i64 a.2.2.2)))]) (fun a => [.row 1 v63 ((a.1).map (D.int .i64)), .box b8 [(.d (.int .i64 z7.Tpl.Kind)), (.d (.int .i64 z7.Tpl.N)), (.d (.str z7.Tpl.Tag)), (.d (.str z7.Tpl.Text)), (.d (.sl ((z7.Tpl.Attrs).map encAttr) false)), (.d (.sl ((z7.Tpl.Kids).map encTpl) false)), (.d (.sl ((z7.Init).map (D.int .i64)) false)), (.d (.sl ((z7.On).map encOn) false))], .box b39 [(.d (.int .i64 x38.tpl.Kind)), (.d (.int .i64 x38.tpl.N)), (.d (.str x38.tpl.Tag)), (.d (.str x38.tpl.Text)), (.d (.sl ((x38.tpl.Attrs).map encAttr) false)), (.d (.sl ((x38.tpl.Kids).map encTpl) false)), (.d (.sl ((x38.on_).map encOn) false)), (.d (.sl ((x38.state).map (D.int .i64)) false))]]) ?_ ?_ n ⟨⟨z62, false, true, 0⟩, _, _, S64, .refl _ _, .refl _, (WeakE.cons rfl (.refl _) (WeakE.cons rfl (.refl _) (WeakE.cons rfl (.refl _) (WeakE.cons rfl (.refl _) (WeakE.cons rfl (.refl _) (WeakE.cons rfl (.refl _) (WeakE.cons rfl (.refl _) (WeakE.cons rfl (.refl _) (WeakE.cons rfl (.refl _) (WeakE.cons rfl (.refl _) (WeakE.cons rfl (.refl _) (WeakE.cons rfl (.refl _) (WeakE.cons rfl (.refl _) WeakE.nil))))))))))))), H65.sel [0, 1, 2] (by decide) rfl, h⟩
              · intro a h; simp [porticolaw17_CompHears_l80] at h
              ·
                intro k80 a S74 H75 h
                obtain ⟨x76, x77, x78, x79⟩ := a
                replace h : porticolaw17_CompHears_l80 n a3 z7 x38 x40 x41 (porticolaw17_CompHears_l42 n a2 a3 z7 k42) z60 (k80 + 1) x76 x77 x78 x79 = some r := h
                replace H75 : Has pureSt S74 [.row 1 v63 ((x76).map (D.int .i64)), .box b8 [(.d (.int .i64 z7.Tpl.Kind)), (.d (.int .i64 z7.Tpl.N)), (.d (.str z7.Tpl.Tag)), (.d (.str z7.Tpl.Text)), (.d (.sl ((z7.Tpl.Attrs).map encAttr) false)), (.d (.sl ((z7.Tpl.Kids).map encTpl) false)), (.d (.sl ((z7.Init).map (D.int .i64)) false)), (.d (.sl ((z7.On).map encOn) false))], .box b39 [(.d (.int .i64 x38.tpl.Kind)), (.d (.int .i64 x38.tpl.N)), (.d (.str x38.tpl.Tag)), (.d (.str x38.tpl.Text)), (.d (.sl ((x38.tpl.Attrs).map encAttr) false)), (.d (.sl ((x38.tpl.Kids).map encTpl) false)), (.d (.sl ((x38.on_).map encOn) false)), (.d (.sl ((x38.state).map (D.int .i64)) false))]] := H75
                unfold porticolaw17_CompHears_l80 at h
                refine WpC.seq ?_
                refine WpC.region (objR1 E) rfl ?_
                refine wpO.val rfl (oper_bin rfl rfl binD_lss) rfl ?_
                refine wpO.nil ?_
                refine WpC.seq ?_
                refine WpC.cond rfl (fun hb81 => ?_) (fun hb81 => ?_)
                ·
                  replace h := if_t hb81 h
                  refine WpC.skip ?_
                  refine WpC.join (B := pureSt) (α := (List Int) × Bool × Bool) (fun a => porticolaw17_CompHears_j87 x79 (porticolaw17_CompHears_l80 n a3 z7 x38 x40 x41 (porticolaw17_CompHears_l42 n a2 a3 z7 k42) z60 k80) a.1 a.2.1 a.2.2 = some r) (fun a => [(1, (.d (.sl ((a2).map D.str) false))), (2, (.d (.bool a3))), (7, (.ptr b8 0 0)), (8, (.ptr b39 0 0)), (9, (.d (.sl ((x40).map (D.int .i64)) false))), (10, (.d (.int .i64 x41))), (11, (.d (.str z60))), (12, v63), (13, (.d (.bool a.2.1))), (14, (.d (.bool a.2.2))), (60, (.d (.sl ((z7.On).map encOn) false))), (61, (.d (.int .i64 ((z7.On).length : Int)))), (62, (.d (.int .i64 x79)))]) (fun a => [.row 1 v63 ((a.1).map (D.int .i64)), .box b8 [(.d (.int .i64 z7.Tpl.Kind)), (.d (.int .i64 z7.Tpl.N)), (.d (.str z7.Tpl.Tag)), (.d (.str z7.Tpl.Text)), (.d (.sl ((z7.Tpl.Attrs).map encAttr) false)), (.d (.sl ((z7.Tpl.Kids).map encTpl) false)), (.d (.sl ((z7.Init).map (D.int .i64)) false)), (.d (.sl ((z7.On).map encOn) false))], .box b39 [(.d (.int .i64 x38.tpl.Kind)), (.d (.int .i64 x38.tpl.N)), (.d (.str x38.tpl.Tag)), (.d (.str x38.tpl.Text)), (.d (.sl ((x38.tpl.Attrs).map encAttr) false)), (.d (.sl ((x38.tpl.Kids).map encTpl) false)), (.d (.sl ((x38.on_).map encOn) false)), (.d (.sl ((x38.state).map (D.int .i64)) false))]]) ?_ ?_
                  ·
                    intro a S82 H83 h
                    obtain ⟨x84, x85, x86⟩ := a
                    replace h : porticolaw17_CompHears_j87 x79 (porticolaw17_CompHears_l80 n a3 z7 x38 x40 x41 (porticolaw17_CompHears_l42 n a2 a3 z7 k42) z60 k80) x84 x85 x86 = some r := h
                    replace H83 : Has pureSt S82 [.row 1 v63 ((x84).map (D.int .i64)), .box b8 [(.d (.int .i64 z7.Tpl.Kind)), (.d (.int .i64 z7.Tpl.N)), (.d (.str z7.Tpl.Tag)), (.d (.str z7.Tpl.Text)), (.d (.sl ((z7.Tpl.Attrs).map encAttr) false)), (.d (.sl ((z7.Tpl.Kids).map encTpl) false)), (.d (.sl ((z7.Init).map (D.int .i64)) false)), (.d (.sl ((z7.On).map encOn) false))], .box b39 [(.d (.int .i64 x38.tpl.Kind)), (.d (.int .i64 x38.tpl.N)), (.d (.str x38.tpl.Tag)), (.d (.str x38.tpl.Text)), (.d (.sl ((x38.tpl.Attrs).map encAttr) false)), (.d (.sl ((x38.tpl.Kids).map encTpl) false)), (.d (.sl ((x38.on_).map encOn) false)), (.d (.sl ((x38.state).map (D.int .i64)) false))]] := H83
                    unfold porticolaw17_CompHears_j87 at h
                    refine WpC.region (objR1 E) rfl ?_
                    refine wpO.val rfl (oper_bin rfl rfl binD_add) rfl ?_
                    refine wpO.val rfl (oper_move rfl) rfl ?_
                    refine wpO.nil ?_
                    exact ⟨⟨x84, x85, x86, (IntKind.wrap .i64 (x79 + 1))⟩, _, _, S82, .refl _ _, .refl _, (WeakE.cons rfl (.refl _) (WeakE.cons rfl (.refl _) (WeakE.cons rfl (.refl _) (WeakE.cons rfl (.refl _) (WeakE.cons rfl (.refl _) (WeakE.cons rfl (.refl _) (WeakE.cons rfl (.refl _) (WeakE.cons rfl (.refl _) (WeakE.cons rfl (.refl _) (WeakE.cons rfl (.refl _) (WeakE.cons rfl (.refl _) (WeakE.cons rfl (.refl _) (WeakE.cons rfl (.refl _) WeakE.nil))))))))))))), H83.sel [0, 1, 2] (by decide) rfl, h⟩
                  ·
                    refine WpC.block ?_
                    refine WpC.seq ?_
                    refine WpC.region (objR1 E) rfl ?_
                    obtain ⟨z88, hzz88, h⟩ := bind_some h
                    refine wpO.val rfl (oper_idx rfl rfl (idxAddr (enc := encOn) hzz88 el30 as29 ((On.len _).trans sz29.symm))) rfl ?_
                    refine wpO.val rfl (oper_loadE rfl (On.partW ag29 sz29)) rfl ?_
                    refine wpO.alloc H75 rfl ob29R1 zo29 rfl rfl (fun b89 S90 H91 => ?_)
                    refine wpO.store H91 (i := 0) rfl rfl rfl rfl (On.cellsA _) rfl sz29 rfl as29 rfl rfl rfl (fun S92 H93 => ?_)
                    refine wpO.nil ?_
                    refine WpC.seq ?_
                    refine WpC.region (objR1 E) rfl ?_
                    refine wpO.val rfl (oper_fieldAddr rfl fo29_0 nz9 rfl) rfl ?_
                    refine wpO.val rfl (oper_load H93 (i := 0) rfl rfl (part_one ag9 rfl)) rfl ?_
                    refine wpO.val rfl (oper_move rfl) rfl ?_
                    refine wpO.val rfl (oper_bin rfl rfl binD_seql) rfl ?_
                    refine wpO.nil ?_
                    refine WpC.cond rfl (fun hb94 => ?_) (fun hb94 => ?_)
                    ·
                      replace h := if_t hb94 h
                      refine WpC.seq ?_
                      refine WpC.region (objR1 E) rfl ?_
                      refine wpO.val rfl (oper_assign rfl) rfl ?_
                      refine wpO.nil ?_
                      refine WpC.seq ?_
                      obtain ⟨z95, hzz95, h⟩ := bind_some h
                      refine WpC.drawP (objR1 E) hmix [[(12, none)], [(16, none)], [(71, some 1)], [(12, none)], [(16, none)], [(74, some 4)], [(73, some 3), (75, some 5)], [(76, some 6)], [(16, none)], [(78, some 8)], [(77, some 7), (79, some 9)], [(70, some 0), (72, some 2)], [(80, some 10), (81, some 11)]] [(1, none), (2, none), (7, none), (8, none), (9, none), (10, none), (11, none), (12, none), (13, none), (14, none), (16, none), (60, none), (61, none), (62, none)] (by kernel_rfl) [12] (by decide) [some v63, some (.ptr b89 0 1), some (.d (.int .i64 z88.N)), some v63, some (.ptr b89 0 1), some (.d (.int .i64 z88.N)), some (rowPtr v63 (Int.toNat z88.N) 0), some (.d (.int .i64 z95)), some (.ptr b89 0 2), some (.d (.int .i64 z88.Add)), some (.d (.int .i64 (IntKind.wrap .i64 (z95 + z88.Add)))), some (rowPtr v63 (Int.toNat z88.N) 0), none] ?_
                      refine ⟨[0, 1, 2, 3, 4, 5, 6, 7, 8, 9, 10, 11], by kernel_rfl, ?_, _, _, rfl, rfl, .step ?_⟩
                      ·
                        refine .cons rfl rfl rfl (.step ?_) ?_
                        ·
                          refine wpO.val rfl (oper_move rfl) rfl ?_
                          exact wpO.nil ⟨_, _, rfl, fun _ ht => by cases ht; exact ⟨rfl, .refl _⟩⟩
                        refine .cons rfl rfl rfl (.step ?_) ?_
                        ·
                          refine wpO.val rfl (oper_fieldAddr rfl fo29_1 nz3 rfl) rfl ?_
                          exact wpO.nil ⟨_, _, rfl, fun _ ht => by cases ht; exact ⟨rfl, .refl _⟩⟩
                        refine .cons rfl rfl rfl (.step ?_) ?_
                        ·
                          refine wpO.val rfl (oper_load H93 (i := 0) rfl rfl (part_one ag3 rfl)) rfl ?_
                          exact wpO.nil ⟨_, _, rfl, fun _ ht => by cases ht; exact ⟨rfl, .refl _⟩⟩
                        refine .cons rfl rfl rfl (.step ?_) ?_
                        ·
                          refine wpO.val rfl (oper_move rfl) rfl ?_
                          exact wpO.nil ⟨_, _, rfl, fun _ ht => by cases ht; exact ⟨rfl, .refl _⟩⟩
                        refine .cons rfl rfl rfl (.step ?_) ?_
                        ·
                          refine wpO.val rfl (oper_fieldAddr rfl fo29_1 nz3 rfl) rfl ?_
                          exact wpO.nil ⟨_, _, rfl, fun _ ht => by cases ht; exact ⟨rfl, .refl _⟩⟩
                        refine .cons rfl rfl rfl (.step ?_) ?_
                        ·
                          refine wpO.val rfl (oper_load H93 (i := 0) rfl rfl (part_one ag3 rfl)) rfl ?_
                          exact wpO.nil ⟨_, _, rfl, fun _ ht => by cases ht; exact ⟨rfl, .refl _⟩⟩
                        refine .cons rfl rfl rfl (.step ?_) ?_
                        ·
                          refine wpO.rowIdxP (enc := (D.int .i64)) H93 rfl (i := 1) rfl rfl rfl hzz95 el27 as3 (((fun _ => rfl) _).trans sz3.symm) rfl ?_
                          exact wpO.nil ⟨_, _, rfl, fun _ ht => by cases ht; exact ⟨rfl, .refl _⟩⟩
                        refine .cons rfl rfl rfl (.step ?_) ?_
                        ·
                          refine wpO.rowLoadP H93 rfl (i := 1) rfl hzz95 rfl (partD_one ag3 rfl) rfl ?_
                          exact wpO.nil ⟨_, _, rfl, fun _ ht => by cases ht; exact ⟨rfl, .refl _⟩⟩
                        refine .cons rfl rfl rfl (.step ?_) ?_
                        ·
                          refine wpO.val rfl (oper_fieldAddr rfl fo29_2 nz3 rfl) rfl ?_
                          exact wpO.nil ⟨_, _, rfl, fun _ ht => by cases ht; exact ⟨rfl, .refl _⟩⟩
                        refine .cons rfl rfl rfl (.step ?_) ?_
                        ·
                          refine wpO.val rfl (oper_load H93 (i := 0) rfl rfl (part_one ag3 rfl)) rfl ?_
                          exact wpO.nil ⟨_, _, rfl, fun _ ht => by cases ht; exact ⟨rfl, .refl _⟩⟩
                        refine .cons rfl rfl rfl (.step ?_) ?_
                        ·
                          refine wpO.val rfl (oper_bin rfl rfl binD_add) rfl ?_
                          exact wpO.nil ⟨_, _, rfl, fun _ ht => by cases ht; exact ⟨rfl, .refl _⟩⟩
                        refine .cons rfl rfl rfl (.step ?_) ?_
                        ·
                          refine wpO.rowIdxP (enc := (D.int .i64)) H93 rfl (i := 1) rfl rfl rfl hzz95 el27 as3 (((fun _ => rfl) _).trans sz3.symm) rfl ?_
                          exact wpO.nil ⟨_, _, rfl, fun _ ht => by cases ht; exact ⟨rfl, .refl _⟩⟩
                        exact .nil
                      refine wpO.rowStoreP (enc := (D.int .i64)) (z' := (IntKind.wrap .i64 (z95 + z88.Add))) (cv := [(.int .i64 (IntKind.wrap .i64 (z95 + z88.Add)))]) H93 rfl (i := 1) rfl hzz95 rfl rfl rfl (.cons (.refl _) .nil) sz3 rfl as3 rfl rfl rfl (fun S98 H99 => ?_)
                      refine wpO.nil ⟨_, .any, _, rfl, (fun _ ht => by cases ht), [some v63, some (.ptr b89 0 1), some (.d (.int .i64 z88.N)), some v63, some (.ptr b89 0 1), some (.d (.int .i64 z88.N)), some (rowPtr v63 (Int.toNat z88.N) 0), some (.d (.int .i64 z95)), some (.ptr b89 0 2), some (.d (.int .i64 z88.Add)), some (.d (.int .i64 (IntKind.wrap .i64 (z95 + z88.Add)))), some (rowPtr v63 (Int.toNat z88.N) 0), some .any], (.old (.refl _) (.old (.refl _) (.old (.refl _) (.old (.refl _) (.old (.refl _) (.old (.refl _) (.old (.refl _) (.old (.refl _) (.old (.refl _) (.old (.refl _) (.old (.refl _) (.old (.refl _) (.new .nil))))))))))))), (fun _ ht => by cases ht), ?_⟩
                      refine ⟨[], by kernel_rfl, ?_, _, rfl, ?_⟩
                      ·
                        exact .nil
                      refine WpC.region (objR1 E) rfl ?_
                      refine wpO.val rfl (oper_move rfl) rfl ?_
                      refine wpO.val rfl (oper_move rfl) rfl ?_
                      obtain ⟨z101, hzz101, h⟩ := bind_some h
                      refine wpO.groupV 7 90 (.d (.bool z101)) ?_ ?_
                      ·
                        rcases Bool.eq_false_or_eq_true (x78) with hB100 | hB100
                        ·
                          refine wpO.bool hB100 ?_
                          replace hzz101 := if_t hB100 hzz101
                          refine wpO.val rfl (oper_move rfl) rfl ?_
                          refine wpO.val rfl (oper_fieldAddr rfl fo29_1 nz3 rfl) rfl ?_
                          refine wpO.val rfl (oper_load H99 (i := 0) rfl rfl (part_one ag3 rfl)) rfl ?_
                          obtain ⟨z102, hzz102, hzz101⟩ := bind_some hzz101
                          refine wpO.rowIdxP (enc := (D.int .i64)) H99 rfl (i := 1) rfl rfl rfl hzz102 el27 as3 (((fun _ => rfl) _).trans sz3.symm) rfl ?_
                          refine wpO.rowLoadP H99 rfl (i := 1) rfl hzz102 rfl (partD_one ag3 rfl) rfl ?_
                          refine wpO.val rfl (oper_bin rfl rfl binD_leq) rfl ?_
                          refine wpO.val rfl (oper_pick (b := true) rfl rfl) rfl ?_
                          cases hzz101
                          exact wpO.nil ⟨_, rfl, (WeakE.put (WeakE.push rfl (WeakE.push rfl (WeakE.push rfl (WeakE.push rfl (WeakE.push rfl (WeakE.push rfl (WeakE.put (.refl _) (Less.eq (by rw [hB100]))))))))) (.refl _))⟩
                        ·
                          refine wpO.bool hB100 ?_
                          refine wpO.no rfl rfl ?_
                          refine wpO.no rfl rfl ?_
                          refine wpO.no rfl rfl ?_
                          refine wpO.no rfl rfl ?_
                          refine wpO.no rfl rfl ?_
                          refine wpO.no rfl rfl ?_
                          refine wpO.val rfl (oper_pick (b := false) rfl rfl) rfl ?_
                          replace hzz101 := if_f hB100 hzz101
                          cases hzz101
                          exact wpO.nil ⟨_, rfl, (WeakE.put (WeakE.push rfl (WeakE.push rfl (WeakE.push rfl (WeakE.push rfl (WeakE.push rfl (WeakE.push rfl (WeakE.put (.refl _) (Less.eq (by rw [hB100]))))))))) (.refl _))⟩
                      ·
                        refine wpO.val rfl (oper_move rfl) rfl ?_
                        obtain ⟨z104, hzz104, h⟩ := bind_some h
                        refine wpO.groupV 7 98 (.d (.bool z104)) ?_ ?_
                        ·
                          rcases Bool.eq_false_or_eq_true (z101) with hB103 | hB103
                          ·
                            refine wpO.bool hB103 ?_
                            replace hzz104 := if_t hB103 hzz104
                            refine wpO.val rfl (oper_move rfl) rfl ?_
                            refine wpO.val rfl (oper_fieldAddr rfl fo29_1 nz3 rfl) rfl ?_
                            refine wpO.val rfl (oper_load H99 (i := 0) rfl rfl (part_one ag3 rfl)) rfl ?_
                            obtain ⟨z105, hzz105, hzz104⟩ := bind_some hzz104
                            refine wpO.rowIdxP (enc := (D.int .i64)) H99 rfl (i := 1) rfl rfl rfl hzz105 el27 as3 (((fun _ => rfl) _).trans sz3.symm) rfl ?_
                            refine wpO.rowLoadP H99 rfl (i := 1) rfl hzz105 rfl (partD_one ag3 rfl) rfl ?_
                            refine wpO.val rfl (oper_bin rfl rfl binD_geq) rfl ?_
                            refine wpO.val rfl (oper_pick (b := true) rfl rfl) rfl ?_
                            cases hzz104
                            exact wpO.nil ⟨_, rfl, (WeakE.put (WeakE.push rfl (WeakE.push rfl (WeakE.push rfl (WeakE.push rfl (WeakE.push rfl (WeakE.push rfl (WeakE.put (.refl _) (Less.eq (by rw [hB103]))))))))) (.refl _))⟩
                          ·
                            refine wpO.bool hB103 ?_
                            refine wpO.no rfl rfl ?_
                            refine wpO.no rfl rfl ?_
                            refine wpO.no rfl rfl ?_
                            refine wpO.no rfl rfl ?_
                            refine wpO.no rfl rfl ?_
                            refine wpO.no rfl rfl ?_
                            refine wpO.val rfl (oper_pick (b := false) rfl rfl) rfl ?_
                            replace hzz104 := if_f hB103 hzz104
                            cases hzz104
                            exact wpO.nil ⟨_, rfl, (WeakE.put (WeakE.push rfl (WeakE.push rfl (WeakE.push rfl (WeakE.push rfl (WeakE.push rfl (WeakE.push rfl (WeakE.put (.refl _) (Less.eq (by rw [hB103]))))))))) (.refl _))⟩
                        ·
                          refine wpO.val rfl (oper_assign rfl) rfl ?_
                          refine wpO.nil ?_
                          exact ⟨⟨(setI x76 z88.N (IntKind.wrap .i64 (z95 + z88.Add))), true, z104⟩, _, _, S98, .refl _ _, .refl _, (WeakE.cons rfl (.refl _) (WeakE.cons rfl (.refl _) (WeakE.cons rfl (.refl _) (WeakE.cons rfl (.refl _) (WeakE.cons rfl (.refl _) (WeakE.cons rfl (.refl _) (WeakE.cons rfl (.refl _) (WeakE.cons rfl (.refl _) (WeakE.cons rfl (.refl _) (WeakE.cons rfl (.refl _) (WeakE.cons rfl (.refl _) (WeakE.cons rfl (.refl _) (WeakE.cons rfl (.refl _) WeakE.nil))))))))))))), H99.sel [1, 2, 3] (by decide) rfl, h⟩
                    ·
                      replace h := if_f hb94 h
                      refine WpC.skip ?_
                      exact ⟨⟨x76, x77, x78⟩, _, _, S92, .refl _ _, .refl _, (WeakE.cons rfl (.refl _) (WeakE.cons rfl (.refl _) (WeakE.cons rfl (.refl _) (WeakE.cons rfl (.refl _) (WeakE.cons rfl (.refl _) (WeakE.cons rfl (.refl _) (WeakE.cons rfl (.refl _) (WeakE.cons rfl (.refl _) (WeakE.cons rfl (.refl _) (WeakE.cons rfl (.refl _) (WeakE.cons rfl (.refl _) (WeakE.cons rfl (.refl _) (WeakE.cons rfl (.refl _) WeakE.nil))))))))))))), H93.sel [1, 2, 3] (by decide) rfl, h⟩
                ·
                  replace h := if_f hb81 h
                  refine WpC.exit ?_
                  refine WpC.seq ?_
                  refine WpC.region (objR1 E) rfl ?_
                  refine wpO.val rfl (oper_assign rfl) rfl ?_
                  refine wpO.nil ?_
                  refine WpC.join (B := pureSt) (α := (List Int) × Int) (fun a => porticolaw17_CompHears_j110 n a3 x38 x41 (porticolaw17_CompHears_l42 n a2 a3 z7 k42) z60 x77 a.1 a.2 = some r) (fun a => [(1, (.d (.sl ((a2).map D.str) false))), (2, (.d (.bool a3))), (7, (.ptr b8 0 0)), (8, (.ptr b39 0 0)), (9, (.d (.sl ((a.1).map (D.int .i64)) false))), (10, (.d (.int .i64 x41))), (11, (.d (.str z60))), (13, (.d (.bool x77))), (17, (.d (.int .i64 a.2)))]) (fun a => [.box b8 [(.d (.int .i64 z7.Tpl.Kind)), (.d (.int .i64 z7.Tpl.N)), (.d (.str z7.Tpl.Tag)), (.d (.str z7.Tpl.Text)), (.d (.sl ((z7.Tpl.Attrs).map encAttr) false)), (.d (.sl ((z7.Tpl.Kids).map encTpl) false)), (.d (.sl ((z7.Init).map (D.int .i64)) false)), (.d (.sl ((z7.On).map encOn) false))], .box b39 [(.d (.int .i64 x38.tpl.Kind)), (.d (.int .i64 x38.tpl.N)), (.d (.str x38.tpl.Tag)), (.d (.str x38.tpl.Text)), (.d (.sl ((x38.tpl.Attrs).map encAttr) false)), (.d (.sl ((x38.tpl.Kids).map encTpl) false)), (.d (.sl ((x38.on_).map encOn) false)), (.d (.sl ((x38.state).map (D.int .i64)) false))]]) ?_ ?_
                  ·
                    intro a S106 H107 h
                    obtain ⟨x108, x109⟩ := a
                    replace h : porticolaw17_CompHears_j110 n a3 x38 x41 (porticolaw17_CompHears_l42 n a2 a3 z7 k42) z60 x77 x108 x109 = some r := h
                    replace H107 : Has pureSt S106 [.box b8 [(.d (.int .i64 z7.Tpl.Kind)), (.d (.int .i64 z7.Tpl.N)), (.d (.str z7.Tpl.Tag)), (.d (.str z7.Tpl.Text)), (.d (.sl ((z7.Tpl.Attrs).map encAttr) false)), (.d (.sl ((z7.Tpl.Kids).map encTpl) false)), (.d (.sl ((z7.Init).map (D.int .i64)) false)), (.d (.sl ((z7.On).map encOn) false))], .box b39 [(.d (.int .i64 x38.tpl.Kind)), (.d (.int .i64 x38.tpl.N)), (.d (.str x38.tpl.Tag)), (.d (.str x38.tpl.Text)), (.d (.sl ((x38.tpl.Attrs).map encAttr) false)), (.d (.sl ((x38.tpl.Kids).map encTpl) false)), (.d (.sl ((x38.on_).map encOn) false)), (.d (.sl ((x38.state).map (D.int .i64)) false))]] := H107
                    unfold porticolaw17_CompHears_j110 at h
                    refine WpC.seq ?_
                    refine WpC.seq ?_
                    refine WpC.region (objR1 E) rfl ?_
                    refine wpO.val rfl (oper_move rfl) rfl ?_
                    refine wpO.val rfl (oper_move rfl) rfl ?_
                    obtain ⟨z111, hzz111, h⟩ := bind_some h
                    refine wpO.retM (ins := [.box b39 [(.d (.int .i64 x38.tpl.Kind)), (.d (.int .i64 x38.tpl.N)), (.d (.str x38.tpl.Tag)), (.d (.str x38.tpl.Text)), (.d (.sl ((x38.tpl.Attrs).map encAttr) false)), (.d (.sl ((x38.tpl.Kids).map encTpl) false)), (.d (.sl ((x38.on_).map encOn) false)), (.d (.sl ((x38.state).map (D.int .i64)) false))]]) (more := [.box b8 [(.d (.int .i64 z7.Tpl.Kind)), (.d (.int .i64 z7.Tpl.N)), (.d (.str z7.Tpl.Tag)), (.d (.str z7.Tpl.Text)), (.d (.sl ((z7.Tpl.Attrs).map encAttr) false)), (.d (.sl ((z7.Tpl.Kids).map encTpl) false)), (.d (.sl ((z7.Init).map (D.int .i64)) false)), (.d (.sl ((z7.On).map encOn) false))]]) (H107.sel [1, 0] (by decide) rfl) rfl (oper_callF rfl rfl) (comp_Instance_Hears_ok E n _ _ _ hzz111 b39) (.cons (.refl _) (.cons (.refl _) .nil)) rfl ?_
                    rintro _ S112 _ ⟨rfl, rfl⟩ H113
                    replace H113 : Has pureSt S112 [.box b39 [(.d (.int .i64 x38.tpl.Kind)), (.d (.int .i64 x38.tpl.N)), (.d (.str x38.tpl.Tag)), (.d (.str x38.tpl.Text)), (.d (.sl ((x38.tpl.Attrs).map encAttr) false)), (.d (.sl ((x38.tpl.Kids).map encTpl) false)), (.d (.sl ((x38.on_).map encOn) false)), (.d (.sl ((x38.state).map (D.int .i64)) false))], .box b8 [(.d (.int .i64 z7.Tpl.Kind)), (.d (.int .i64 z7.Tpl.N)), (.d (.str z7.Tpl.Tag)), (.d (.str z7.Tpl.Text)), (.d (.sl ((z7.Tpl.Attrs).map encAttr) false)), (.d (.sl ((z7.Tpl.Kids).map encTpl) false)), (.d (.sl ((z7.Init).map (D.int .i64)) false)), (.d (.sl ((z7.On).map encOn) false))]] := H113
                    refine wpO.val rfl (oper_move rfl) rfl ?_
                    refine wpO.val rfl (oper_bin rfl rfl (binD_bneq ub4)) rfl ?_
                    refine wpO.val rfl (oper_move rfl) rfl ?_
                    rcases Bool.eq_false_or_eq_true ((!(z111 == x77))) with hB114 | hB114
                    ·
                      replace h := if_t hB114 h
                      refine wpO.bool hB114 ?_
                      refine wpO.no rfl rfl ?_
                      refine wpO.no rfl rfl ?_
                      refine wpO.no rfl rfl ?_
                      refine wpO.no rfl rfl ?_
                      refine wpO.no rfl rfl ?_
                      refine wpO.val rfl (oper_pick (b := true) rfl rfl) rfl ?_
                      refine wpO.val rfl (oper_move rfl) rfl ?_
                      refine wpO.no rfl rfl ?_
                      refine wpO.no rfl rfl ?_
                      refine wpO.no rfl rfl ?_
                      refine wpO.no rfl rfl ?_
                      refine wpO.no rfl rfl ?_
                      refine wpO.val rfl (oper_pick (b := true) rfl rfl) rfl ?_
                      refine wpO.nil ?_
                      refine WpC.cond rfl (fun hb => ?_) (fun hb => ?_)
                      ·
                        refine WpC.seq ?_
                        refine WpC.region (objR1 E) rfl ?_
                        refine wpO.val rfl (oper_assign rfl) rfl ?_
                        refine wpO.nil ?_
                        have hr := Option.some.inj h
                        subst hr
                        exact WpC.ret ⟨_, rfl, rfl, end1 (ArgsC.eq .nil)⟩
                      ·
                        cases hb
                    ·
                      replace h := if_f hB114 h
                      refine wpO.bool hB114 ?_
                      refine wpO.val rfl (oper_move rfl) rfl ?_
                      refine wpO.val rfl (oper_move rfl) rfl ?_
                      obtain ⟨z115, hzz115, h⟩ := bind_some h
                      refine wpO.retM (ins := [.box b39 [(.d (.int .i64 x38.tpl.Kind)), (.d (.int .i64 x38.tpl.N)), (.d (.str x38.tpl.Tag)), (.d (.str x38.tpl.Text)), (.d (.sl ((x38.tpl.Attrs).map encAttr) false)), (.d (.sl ((x38.tpl.Kids).map encTpl) false)), (.d (.sl ((x38.on_).map encOn) false)), (.d (.sl ((x38.state).map (D.int .i64)) false))]]) (more := [.box b8 [(.d (.int .i64 z7.Tpl.Kind)), (.d (.int .i64 z7.Tpl.N)), (.d (.str z7.Tpl.Tag)), (.d (.str z7.Tpl.Text)), (.d (.sl ((z7.Tpl.Attrs).map encAttr) false)), (.d (.sl ((z7.Tpl.Kids).map encTpl) false)), (.d (.sl ((z7.Init).map (D.int .i64)) false)), (.d (.sl ((z7.On).map encOn) false))]]) (H113.sel [0, 1] (by decide) rfl) rfl (oper_callF rfl rfl) (comp_Instance_Hear_ok E n _ _ _ hzz115 b39) (.cons (.refl _) (.cons (.refl _) .nil)) rfl ?_
                      rintro _ S116 _ ⟨rfl, rfl⟩ H117
                      replace H117 : Has pureSt S116 [.box b39 [(.d (.int .i64 z115.2.tpl.Kind)), (.d (.int .i64 z115.2.tpl.N)), (.d (.str z115.2.tpl.Tag)), (.d (.str z115.2.tpl.Text)), (.d (.sl ((z115.2.tpl.Attrs).map encAttr) false)), (.d (.sl ((z115.2.tpl.Kids).map encTpl) false)), (.d (.sl ((z115.2.on_).map encOn) false)), (.d (.sl ((z115.2.state).map (D.int .i64)) false))], .box b8 [(.d (.int .i64 z7.Tpl.Kind)), (.d (.int .i64 z7.Tpl.N)), (.d (.str z7.Tpl.Tag)), (.d (.str z7.Tpl.Text)), (.d (.sl ((z7.Tpl.Attrs).map encAttr) false)), (.d (.sl ((z7.Tpl.Kids).map encTpl) false)), (.d (.sl ((z7.Init).map (D.int .i64)) false)), (.d (.sl ((z7.On).map encOn) false))]] := H117
                      refine wpO.val rfl (oper_move rfl) rfl ?_
                      refine wpO.val rfl (oper_bin rfl rfl binD_neq) rfl ?_
                      refine wpO.val rfl (oper_pick (b := false) rfl rfl) rfl ?_
                      refine wpO.val rfl (oper_move rfl) rfl ?_
                      rcases Bool.eq_false_or_eq_true ((z115.1 != x109)) with hB118 | hB118
                      ·
                        replace h := if_t hB118 h
                        refine wpO.bool hB118 ?_
                        refine wpO.no rfl rfl ?_
                        refine wpO.no rfl rfl ?_
                        refine wpO.no rfl rfl ?_
                        refine wpO.no rfl rfl ?_
                        refine wpO.no rfl rfl ?_
                        refine wpO.val rfl (oper_pick (b := true) rfl rfl) rfl ?_
                        refine wpO.nil ?_
                        refine WpC.cond rfl (fun hb => ?_) (fun hb => ?_)
                        ·
                          refine WpC.seq ?_
                          refine WpC.region (objR1 E) rfl ?_
                          refine wpO.val rfl (oper_assign rfl) rfl ?_
                          refine wpO.nil ?_
                          have hr := Option.some.inj h
                          subst hr
                          exact WpC.ret ⟨_, rfl, rfl, end1 (ArgsC.eq .nil)⟩
                        ·
                          cases hb
                      ·
                        replace h := if_f hB118 h
                        refine wpO.bool hB118 ?_
                        refine wpO.val rfl (oper_move rfl) rfl ?_
                        obtain ⟨z119, hzz119, h⟩ := bind_some h
                        refine wpO.retM (ins := [.box b39 [(.d (.int .i64 z115.2.tpl.Kind)), (.d (.int .i64 z115.2.tpl.N)), (.d (.str z115.2.tpl.Tag)), (.d (.str z115.2.tpl.Text)), (.d (.sl ((z115.2.tpl.Attrs).map encAttr) false)), (.d (.sl ((z115.2.tpl.Kids).map encTpl) false)), (.d (.sl ((z115.2.on_).map encOn) false)), (.d (.sl ((z115.2.state).map (D.int .i64)) false))]]) (more := [.box b8 [(.d (.int .i64 z7.Tpl.Kind)), (.d (.int .i64 z7.Tpl.N)), (.d (.str z7.Tpl.Tag)), (.d (.str z7.Tpl.Text)), (.d (.sl ((z7.Tpl.Attrs).map encAttr) false)), (.d (.sl ((z7.Tpl.Kids).map encTpl) false)), (.d (.sl ((z7.Init).map (D.int .i64)) false)), (.d (.sl ((z7.On).map encOn) false))]]) (H117.sel [0, 1] (by decide) rfl) rfl (oper_callF rfl rfl) (comp_Instance_State_okN E n _ _ hzz119 b39) (.cons (.refl _) .nil) rfl ?_
                        rintro v122 S120 _ rfl H121
                        replace H121 : Has pureSt S120 [.row 1 v122 ((z119).map (D.int .i64)), .box b39 [(.d (.int .i64 z115.2.tpl.Kind)), (.d (.int .i64 z115.2.tpl.N)), (.d (.str z115.2.tpl.Tag)), (.d (.str z115.2.tpl.Text)), (.d (.sl ((z115.2.tpl.Attrs).map encAttr) false)), (.d (.sl ((z115.2.tpl.Kids).map encTpl) false)), (.d (.sl ((z115.2.on_).map encOn) false)), (.d (.sl ((z115.2.state).map (D.int .i64)) false))], .box b8 [(.d (.int .i64 z7.Tpl.Kind)), (.d (.int .i64 z7.Tpl.N)), (.d (.str z7.Tpl.Tag)), (.d (.str z7.Tpl.Text)), (.d (.sl ((z7.Tpl.Attrs).map encAttr) false)), (.d (.sl ((z7.Tpl.Kids).map encTpl) false)), (.d (.sl ((z7.Init).map (D.int .i64)) false)), (.d (.sl ((z7.On).map encOn) false))]] := H121
                        refine wpO.val rfl (oper_move rfl) rfl ?_
                        obtain ⟨z123, hzz123, h⟩ := bind_some h
                        refine wpO.retL (objR1 E).toObjOk rfl (oper_callF rfl rfl) (porticobook_Same_int_ok E n _ _ _ hzz123) rfl (.cons (Lend.row H121 (i := 0) rfl) (.cons (.less (.refl _)) .nil)) rfl ?_
                        refine wpO.val rfl (oper_not rfl) rfl ?_
                        refine wpO.val rfl (oper_pick (b := false) rfl rfl) rfl ?_
                        refine wpO.nil ?_
                        refine WpC.cond rfl (fun hb124 => ?_) (fun hb124 => ?_)
                        ·
                          replace h := if_t hb124 h
                          refine WpC.seq ?_
                          refine WpC.region (objR1 E) rfl ?_
                          refine wpO.val rfl (oper_assign rfl) rfl ?_
                          refine wpO.nil ?_
                          have hr := Option.some.inj h
                          subst hr
                          exact WpC.ret ⟨_, rfl, rfl, end1 (ArgsC.eq .nil)⟩
                        ·
                          replace h := if_f hb124 h
                          refine WpC.skip ?_
                          refine WpC.seq ?_
                          refine WpC.region (objR1 E) rfl ?_
                          refine wpO.val rfl (oper_move rfl) rfl ?_
                          refine wpO.val rfl (oper_move rfl) rfl ?_
                          refine wpO.groupV 4 129 (.d (.bool (a3 && ((andI .i64 x41 3) == 1)))) ?_ ?_
                          ·
                            rcases Bool.eq_false_or_eq_true (a3) with hB125 | hB125
                            ·
                              refine wpO.bool hB125 ?_
                              refine wpO.val rfl (oper_move rfl) rfl ?_
                              refine wpO.val rfl (oper_bin rfl rfl binD_and) rfl ?_
                              refine wpO.val rfl (oper_bin rfl rfl binD_eql) rfl ?_
                              refine wpO.val rfl (oper_pick (b := true) rfl rfl) rfl ?_
                              exact wpO.nil ⟨_, rfl, (WeakE.put (WeakE.push rfl (WeakE.push rfl (WeakE.push rfl (WeakE.put (.refl _) (Less.eq (by rw [hB125])))))) (Less.eq (by rw [hB125]; rw [Bool.true_and])))⟩
                            ·
                              refine wpO.bool hB125 ?_
                              refine wpO.no rfl rfl ?_
                              refine wpO.no rfl rfl ?_
                              refine wpO.no rfl rfl ?_
                              refine wpO.val rfl (oper_pick (b := false) rfl rfl) rfl ?_
                              exact wpO.nil ⟨_, rfl, (WeakE.put (WeakE.push rfl (WeakE.push rfl (WeakE.push rfl (WeakE.put (.refl _) (Less.eq (by rw [hB125])))))) (Less.eq (by rw [hB125]; rw [Bool.false_and])))⟩
                          ·
                            refine wpO.nil ?_
                            refine WpC.cond rfl (fun hb126 => ?_) (fun hb126 => ?_)
                            ·
                              replace h := if_t hb126 h
                              refine WpC.seq ?_
                              refine WpC.region (objR1 E) rfl ?_
                              refine wpO.val rfl (oper_move rfl) rfl ?_
                              obtain ⟨z127, hzz127, h⟩ := bind_some h
                              refine wpO.retM (ins := [.box b39 [(.d (.int .i64 z115.2.tpl.Kind)), (.d (.int .i64 z115.2.tpl.N)), (.d (.str z115.2.tpl.Tag)), (.d (.str z115.2.tpl.Text)), (.d (.sl ((z115.2.tpl.Attrs).map encAttr) false)), (.d (.sl ((z115.2.tpl.Kids).map encTpl) false)), (.d (.sl ((z115.2.on_).map encOn) false)), (.d (.sl ((z115.2.state).map (D.int .i64)) false))]]) (more := [.row 1 v122 ((z119).map (D.int .i64)), .box b8 [(.d (.int .i64 z7.Tpl.Kind)), (.d (.int .i64 z7.Tpl.N)), (.d (.str z7.Tpl.Tag)), (.d (.str z7.Tpl.Text)), (.d (.sl ((z7.Tpl.Attrs).map encAttr) false)), (.d (.sl ((z7.Tpl.Kids).map encTpl) false)), (.d (.sl ((z7.Init).map (D.int .i64)) false)), (.d (.sl ((z7.On).map encOn) false))]]) (H121.sel [1, 0, 2] (by decide) rfl) rfl (oper_callF rfl rfl) (comp_Instance_Copy_ok E n _ _ hzz127 b39) (.cons (.refl _) .nil) rfl ?_
                              rintro v128 S129 l130 hr131 H132
                              rcases z127 with _ | x133
                              ·
                                obtain ⟨rfl, rfl⟩ := hr131
                                replace h := optN h
                                replace H132 : Has pureSt S129 [.box b39 [(.d (.int .i64 z115.2.tpl.Kind)), (.d (.int .i64 z115.2.tpl.N)), (.d (.str z115.2.tpl.Tag)), (.d (.str z115.2.tpl.Text)), (.d (.sl ((z115.2.tpl.Attrs).map encAttr) false)), (.d (.sl ((z115.2.tpl.Kids).map encTpl) false)), (.d (.sl ((z115.2.on_).map encOn) false)), (.d (.sl ((z115.2.state).map (D.int .i64)) false))], .row 1 v122 ((z119).map (D.int .i64)), .box b8 [(.d (.int .i64 z7.Tpl.Kind)), (.d (.int .i64 z7.Tpl.N)), (.d (.str z7.Tpl.Tag)), (.d (.str z7.Tpl.Text)), (.d (.sl ((z7.Tpl.Attrs).map encAttr) false)), (.d (.sl ((z7.Tpl.Kids).map encTpl) false)), (.d (.sl ((z7.Init).map (D.int .i64)) false)), (.d (.sl ((z7.On).map encOn) false))]] := H132
                                refine wpO.val rfl (oper_assign rfl) rfl ?_
                                refine wpO.nil ?_
                                refine WpC.seq ?_
                                refine WpC.seq ?_
                                refine WpC.region (objR1 E) rfl ?_
                                refine wpO.val rfl (oper_move rfl) rfl ?_
                                refine wpO.val rfl (oper_bin rfl rfl (binD_nn up33)) rfl ?_
                                refine wpO.nil ?_
                                refine WpC.cond rfl (fun hb => ?_) (fun hb => ?_)
                                ·
                                  refine WpC.seq ?_
                                  refine WpC.region (objR1 E) rfl ?_
                                  refine wpO.val rfl (oper_assign rfl) rfl ?_
                                  refine wpO.nil ?_
                                  have hr := Option.some.inj h
                                  subst hr
                                  exact WpC.ret ⟨_, rfl, rfl, end1 (ArgsC.eq .nil)⟩
                                ·
                                  cases hb
                              ·
                                obtain ⟨b134, rfl, rfl⟩ := hr131
                                replace h := optS h
                                replace H132 : Has pureSt S129 [.box b134 [(.d (.int .i64 x133.tpl.Kind)), (.d (.int .i64 x133.tpl.N)), (.d (.str x133.tpl.Tag)), (.d (.str x133.tpl.Text)), (.d (.sl ((x133.tpl.Attrs).map encAttr) false)), (.d (.sl ((x133.tpl.Kids).map encTpl) false)), (.d (.sl ((x133.on_).map encOn) false)), (.d (.sl ((x133.state).map (D.int .i64)) false))], .box b39 [(.d (.int .i64 z115.2.tpl.Kind)), (.d (.int .i64 z115.2.tpl.N)), (.d (.str z115.2.tpl.Tag)), (.d (.str z115.2.tpl.Text)), (.d (.sl ((z115.2.tpl.Attrs).map encAttr) false)), (.d (.sl ((z115.2.tpl.Kids).map encTpl) false)), (.d (.sl ((z115.2.on_).map encOn) false)), (.d (.sl ((z115.2.state).map (D.int .i64)) false))], .row 1 v122 ((z119).map (D.int .i64)), .box b8 [(.d (.int .i64 z7.Tpl.Kind)), (.d (.int .i64 z7.Tpl.N)), (.d (.str z7.Tpl.Tag)), (.d (.str z7.Tpl.Text)), (.d (.sl ((z7.Tpl.Attrs).map encAttr) false)), (.d (.sl ((z7.Tpl.Kids).map encTpl) false)), (.d (.sl ((z7.Init).map (D.int .i64)) false)), (.d (.sl ((z7.On).map encOn) false))]] := H132
                                refine wpO.val rfl (oper_assign rfl) rfl ?_
                                refine wpO.nil ?_
                                refine WpC.seq ?_
                                refine WpC.seq ?_
                                refine WpC.region (objR1 E) rfl ?_
                                refine wpO.val rfl (oper_move rfl) rfl ?_
                                refine wpO.val rfl (oper_bin rfl rfl (binD_pn up33)) rfl ?_
                                refine wpO.nil ?_
                                refine WpC.cond rfl (fun hb => ?_) (fun hb => ?_)
                                ·
                                  cases hb
                                ·
                                  refine WpC.skip ?_
                                  refine WpC.seq ?_
                                  refine WpC.region (objR1 E) rfl ?_
                                  refine wpO.val rfl (oper_move rfl) rfl ?_
                                  refine wpO.val rfl (oper_move rfl) rfl ?_
                                  obtain ⟨z135, hzz135, h⟩ := bind_some h
                                  refine wpO.retM (ins := [.box b39 [(.d (.int .i64 z115.2.tpl.Kind)), (.d (.int .i64 z115.2.tpl.N)), (.d (.str z115.2.tpl.Tag)), (.d (.str z115.2.tpl.Text)), (.d (.sl ((z115.2.tpl.Attrs).map encAttr) false)), (.d (.sl ((z115.2.tpl.Kids).map encTpl) false)), (.d (.sl ((z115.2.on_).map encOn) false)), (.d (.sl ((z115.2.state).map (D.int .i64)) false))]]) (more := [.box b134 [(.d (.int .i64 x133.tpl.Kind)), (.d (.int .i64 x133.tpl.N)), (.d (.str x133.tpl.Tag)), (.d (.str x133.tpl.Text)), (.d (.sl ((x133.tpl.Attrs).map encAttr) false)), (.d (.sl ((x133.tpl.Kids).map encTpl) false)), (.d (.sl ((x133.on_).map encOn) false)), (.d (.sl ((x133.state).map (D.int .i64)) false))], .row 1 v122 ((z119).map (D.int .i64)), .box b8 [(.d (.int .i64 z7.Tpl.Kind)), (.d (.int .i64 z7.Tpl.N)), (.d (.str z7.Tpl.Tag)), (.d (.str z7.Tpl.Text)), (.d (.sl ((z7.Tpl.Attrs).map encAttr) false)), (.d (.sl ((z7.Tpl.Kids).map encTpl) false)), (.d (.sl ((z7.Init).map (D.int .i64)) false)), (.d (.sl ((z7.On).map encOn) false))]]) (H132.sel [1, 0, 2, 3] (by decide) rfl) rfl (oper_callF rfl rfl) (comp_Instance_Hear_ok E n _ _ _ hzz135 b39) (.cons (.refl _) (.cons (.refl _) .nil)) rfl ?_
                                  rintro _ S136 _ ⟨rfl, rfl⟩ H137
                                  replace H137 : Has pureSt S136 [.box b39 [(.d (.int .i64 z135.2.tpl.Kind)), (.d (.int .i64 z135.2.tpl.N)), (.d (.str z135.2.tpl.Tag)), (.d (.str z135.2.tpl.Text)), (.d (.sl ((z135.2.tpl.Attrs).map encAttr) false)), (.d (.sl ((z135.2.tpl.Kids).map encTpl) false)), (.d (.sl ((z135.2.on_).map encOn) false)), (.d (.sl ((z135.2.state).map (D.int .i64)) false))], .box b134 [(.d (.int .i64 x133.tpl.Kind)), (.d (.int .i64 x133.tpl.N)), (.d (.str x133.tpl.Tag)), (.d (.str x133.tpl.Text)), (.d (.sl ((x133.tpl.Attrs).map encAttr) false)), (.d (.sl ((x133.tpl.Kids).map encTpl) false)), (.d (.sl ((x133.on_).map encOn) false)), (.d (.sl ((x133.state).map (D.int .i64)) false))], .row 1 v122 ((z119).map (D.int .i64)), .box b8 [(.d (.int .i64 z7.Tpl.Kind)), (.d (.int .i64 z7.Tpl.N)), (.d (.str z7.Tpl.Tag)), (.d (.str z7.Tpl.Text)), (.d (.sl ((z7.Tpl.Attrs).map encAttr) false)), (.d (.sl ((z7.Tpl.Kids).map encTpl) false)), (.d (.sl ((z7.Init).map (D.int .i64)) false)), (.d (.sl ((z7.On).map encOn) false))]] := H137
                                  refine wpO.nil ?_
                                  refine WpC.region (objR1 E) rfl ?_
                                  refine wpO.val rfl (oper_move rfl) rfl ?_
                                  refine wpO.val rfl (oper_assign rfl) rfl ?_
                                  refine wpO.nil ?_
                                  exact ⟨⟨z135.2.tpl.Kind, z135.2.tpl.N, z135.2.tpl.Tag, z135.2.tpl.Text, z135.2.tpl.Attrs, z135.2.tpl.Kids, z135.2.on_, z135.2.state, x133, b134, x108⟩, _, _, S136, .refl _ _, .refl _, (WeakE.cons rfl (.refl _) (WeakE.cons rfl (.refl _) (WeakE.cons rfl (.refl _) (WeakE.cons rfl (.refl _) (WeakE.cons rfl (.refl _) (WeakE.cons rfl (.refl _) WeakE.nil)))))), H137.sel [3, 1] (by decide) rfl, h⟩
                            ·
                              replace h := if_f hb126 h
                              refine WpC.skip ?_
                              exact ⟨⟨z115.2.tpl.Kind, z115.2.tpl.N, z115.2.tpl.Tag, z115.2.tpl.Text, z115.2.tpl.Attrs, z115.2.tpl.Kids, z115.2.on_, z115.2.state, z115.2, b39, x108⟩, _, _, S120, .refl _ _, .refl _, (WeakE.cons rfl (.refl _) (WeakE.cons rfl (.refl _) (WeakE.cons rfl (.refl _) (WeakE.cons rfl (.refl _) (WeakE.cons rfl (.refl _) (WeakE.cons rfl (.refl _) WeakE.nil)))))), H121.sel [2, 1] (by decide) rfl, h⟩
                  ·
                    refine WpC.seq ?_
                    refine WpC.region (objR1 E) rfl ?_
                    refine wpO.val rfl (oper_move rfl) rfl ?_
                    refine wpO.val rfl (oper_move rfl) rfl ?_
                    refine wpO.groupV 2 103 (.d (.bool (x77 && x78))) ?_ ?_
                    ·
                      rcases Bool.eq_false_or_eq_true (x77) with hB138 | hB138
                      ·
                        refine wpO.bool hB138 ?_
                        refine wpO.val rfl (oper_move rfl) rfl ?_
                        refine wpO.val rfl (oper_pick (b := true) rfl rfl) rfl ?_
                        exact wpO.nil ⟨_, rfl, (WeakE.put (WeakE.push rfl (WeakE.put (.refl _) (Less.eq (by rw [hB138])))) (Less.eq (by rw [hB138]; rw [Bool.true_and])))⟩
                      ·
                        refine wpO.bool hB138 ?_
                        refine wpO.no rfl rfl ?_
                        refine wpO.val rfl (oper_pick (b := false) rfl rfl) rfl ?_
                        exact wpO.nil ⟨_, rfl, (WeakE.put (WeakE.push rfl (WeakE.put (.refl _) (Less.eq (by rw [hB138])))) (Less.eq (by rw [hB138]; rw [Bool.false_and])))⟩
                    ·
                      refine wpO.nil ?_
                      refine WpC.cond rfl (fun hb139 => ?_) (fun hb139 => ?_)
                      ·
                        replace h := if_t hb139 h
                        refine WpC.region (objR1 E) rfl ?_
                        refine wpO.val rfl (oper_move rfl) rfl ?_
                        refine wpO.val rfl (oper_assign rfl) rfl ?_
                        refine wpO.val rfl (oper_assign rfl) rfl ?_
                        refine wpO.nil ?_
                        obtain ⟨SF15, HF15, hgF15⟩ := H75.freeze (objR1 E).toObjOk (i := 0) (l' := [.box b8 [(.d (.int .i64 z7.Tpl.Kind)), (.d (.int .i64 z7.Tpl.N)), (.d (.str z7.Tpl.Tag)), (.d (.str z7.Tpl.Text)), (.d (.sl ((z7.Tpl.Attrs).map encAttr) false)), (.d (.sl ((z7.Tpl.Kids).map encTpl) false)), (.d (.sl ((z7.Init).map (D.int .i64)) false)), (.d (.sl ((z7.On).map encOn) false))], .box b39 [(.d (.int .i64 x38.tpl.Kind)), (.d (.int .i64 x38.tpl.N)), (.d (.str x38.tpl.Tag)), (.d (.str x38.tpl.Text)), (.d (.sl ((x38.tpl.Attrs).map encAttr) false)), (.d (.sl ((x38.tpl.Kids).map encTpl) false)), (.d (.sl ((x38.on_).map encOn) false)), (.d (.sl ((x38.state).map (D.int .i64)) false))]]) rfl (.same (.same .nil))
                        exact ⟨⟨x76, 0⟩, _, _, SF15, (hgF15 _ _ [(1, (.d (.sl ((a2).map D.str) false))), (2, (.d (.bool a3))), (7, (.ptr b8 0 0)), (8, (.ptr b39 0 0)), (9, (.d (.sl ((x76).map (D.int .i64)) false))), (10, (.d (.int .i64 x41))), (11, (.d (.str z60))), (12, (.d (.sl ((x76).map (D.int .i64)) false))), (13, (.d (.bool x77))), (14, (.d (.bool x78))), (17, (.d (.int .i64 0))), (60, (.d (.sl ((z7.On).map encOn) false))), (61, (.d (.int .i64 ((z7.On).length : Int)))), (62, (.d (.int .i64 x79))), (63, (.d (.bool (decide (x79 < ((z7.On).length : Int)))))), (100, (.d (.bool x77))), (101, (.d (.bool x77))), (103, (.d (.bool (x77 && x78)))), (104, (.d (.sl ((x76).map (D.int .i64)) false)))] (.cons rfl (.refl _) (.cons rfl (.refl _) (.cons rfl (.refl _) (.cons rfl (.refl _) (.it rfl (.cons rfl (.refl _) (.cons rfl (.refl _) (.it rfl (.cons rfl (.refl _) (.cons rfl (.refl _) (.cons rfl (.refl _) (.cons rfl (.refl _) (.cons rfl (.refl _) (.cons rfl (.refl _) (.cons rfl (.refl _) (.cons rfl (.refl _) (.cons rfl (.refl _) (.cons rfl (.refl _) (.it rfl .nil)))))))))))))))))))), .refl _, (WeakE.cons rfl (.refl _) (WeakE.cons rfl (.refl _) (WeakE.cons rfl (.refl _) (WeakE.cons rfl (.refl _) (WeakE.cons rfl (.refl _) (WeakE.cons rfl (.refl _) (WeakE.cons rfl (.refl _) (WeakE.cons rfl (.refl _) (WeakE.cons rfl (.refl _) WeakE.nil))))))))), HF15.sel [0, 1] (by decide) rfl, h⟩
                      ·
                        replace h := if_f hb139 h
                        refine WpC.skip ?_
                        exact ⟨⟨x40, 7⟩, _, _, S74, .refl _ _, .refl _, (WeakE.cons rfl (.refl _) (WeakE.cons rfl (.refl _) (WeakE.cons rfl (.refl _) (WeakE.cons rfl (.refl _) (WeakE.cons rfl (.refl _) (WeakE.cons rfl (.refl _) (WeakE.cons rfl (.refl _) (WeakE.cons rfl (.refl _) (WeakE.cons rfl (.refl _) WeakE.nil))))))))), H75.sel [1, 2] (by decide) rfl, h⟩
          ·
            replace h := if_f hb44 h
            refine WpC.exit ?_
            refine WpC.seq ?_
            refine WpC.region (objR1 E) rfl ?_
            refine wpO.val rfl (oper_load H37 (i := 0) rfl rfl (part_agg ag32 sz32 rfl)) rfl ?_
            refine wpO.less (Less.agg' (d := encComp z7) (CellsC.eq rfl (CellsC.eq rfl (CellsC.eq rfl (CellsC.eq rfl (CellsC.eq rfl (CellsC.eq rfl (CellsC.eq rfl (CellsC.eq rfl .nil)))))))) ((Comp.eq _).trans rfl)) ?_
            refine wpO.val rfl (oper_move rfl) rfl ?_
            obtain ⟨z140, hzz140, h⟩ := bind_some h
            refine wpO.retM (ins := []) (more := [.box b8 [(.d (.int .i64 z7.Tpl.Kind)), (.d (.int .i64 z7.Tpl.N)), (.d (.str z7.Tpl.Tag)), (.d (.str z7.Tpl.Text)), (.d (.sl ((z7.Tpl.Attrs).map encAttr) false)), (.d (.sl ((z7.Tpl.Kids).map encTpl) false)), (.d (.sl ((z7.Init).map (D.int .i64)) false)), (.d (.sl ((z7.On).map encOn) false))], .box b39 [(.d (.int .i64 x38.tpl.Kind)), (.d (.int .i64 x38.tpl.N)), (.d (.str x38.tpl.Tag)), (.d (.str x38.tpl.Text)), (.d (.sl ((x38.tpl.Attrs).map encAttr) false)), (.d (.sl ((x38.tpl.Kids).map encTpl) false)), (.d (.sl ((x38.on_).map encOn) false)), (.d (.sl ((x38.state).map (D.int .i64)) false))]]) (H37.sel [0, 1] (by decide) rfl) rfl (oper_callF rfl rfl) (comp_From_ok E n _ _ _ hzz140 ) (.cons (.refl _) (.cons (.refl _) .nil)) rfl ?_
            rintro v141 S142 l143 hr144 H145
            rcases z140 with _ | x146
            ·
              obtain ⟨rfl, rfl⟩ := hr144
              replace h := optN h
              replace H145 : Has pureSt S142 [.box b8 [(.d (.int .i64 z7.Tpl.Kind)), (.d (.int .i64 z7.Tpl.N)), (.d (.str z7.Tpl.Tag)), (.d (.str z7.Tpl.Text)), (.d (.sl ((z7.Tpl.Attrs).map encAttr) false)), (.d (.sl ((z7.Tpl.Kids).map encTpl) false)), (.d (.sl ((z7.Init).map (D.int .i64)) false)), (.d (.sl ((z7.On).map encOn) false))], .box b39 [(.d (.int .i64 x38.tpl.Kind)), (.d (.int .i64 x38.tpl.N)), (.d (.str x38.tpl.Tag)), (.d (.str x38.tpl.Text)), (.d (.sl ((x38.tpl.Attrs).map encAttr) false)), (.d (.sl ((x38.tpl.Kids).map encTpl) false)), (.d (.sl ((x38.on_).map encOn) false)), (.d (.sl ((x38.state).map (D.int .i64)) false))]] := H145
              refine wpO.val rfl (oper_assign rfl) rfl ?_
              refine wpO.nil ?_
              refine WpC.seq ?_
              refine WpC.region (objR1 E) rfl ?_
              refine wpO.val rfl (oper_move rfl) rfl ?_
              refine wpO.val rfl (oper_bin rfl rfl (binD_nnn up33)) rfl ?_
              refine wpO.val rfl (oper_move rfl) rfl ?_
              refine wpO.no rfl rfl ?_
              refine wpO.no rfl rfl ?_
              refine wpO.no rfl rfl ?_
              refine wpO.no rfl rfl ?_
              refine wpO.val rfl (oper_pick (b := false) rfl rfl) rfl ?_
              refine wpO.val rfl (oper_move rfl) rfl ?_
              refine wpO.no rfl rfl ?_
              refine wpO.val rfl (oper_pick (b := false) rfl rfl) rfl ?_
              refine wpO.val rfl (oper_assign rfl) rfl ?_
              refine wpO.nil ?_
              have hr := Option.some.inj h
              subst hr
              exact WpC.ret ⟨_, rfl, rfl, end1 (ArgsC.eq .nil)⟩
            ·
              obtain ⟨b147, rfl, rfl⟩ := hr144
              replace h := optS h
              replace H145 : Has pureSt S142 [.box b147 [(.d (.int .i64 x146.tpl.Kind)), (.d (.int .i64 x146.tpl.N)), (.d (.str x146.tpl.Tag)), (.d (.str x146.tpl.Text)), (.d (.sl ((x146.tpl.Attrs).map encAttr) false)), (.d (.sl ((x146.tpl.Kids).map encTpl) false)), (.d (.sl ((x146.on_).map encOn) false)), (.d (.sl ((x146.state).map (D.int .i64)) false))], .box b8 [(.d (.int .i64 z7.Tpl.Kind)), (.d (.int .i64 z7.Tpl.N)), (.d (.str z7.Tpl.Tag)), (.d (.str z7.Tpl.Text)), (.d (.sl ((z7.Tpl.Attrs).map encAttr) false)), (.d (.sl ((z7.Tpl.Kids).map encTpl) false)), (.d (.sl ((z7.Init).map (D.int .i64)) false)), (.d (.sl ((z7.On).map encOn) false))], .box b39 [(.d (.int .i64 x38.tpl.Kind)), (.d (.int .i64 x38.tpl.N)), (.d (.str x38.tpl.Tag)), (.d (.str x38.tpl.Text)), (.d (.sl ((x38.tpl.Attrs).map encAttr) false)), (.d (.sl ((x38.tpl.Kids).map encTpl) false)), (.d (.sl ((x38.on_).map encOn) false)), (.d (.sl ((x38.state).map (D.int .i64)) false))]] := H145
              refine wpO.val rfl (oper_assign rfl) rfl ?_
              refine wpO.nil ?_
              refine WpC.seq ?_
              refine WpC.region (objR1 E) rfl ?_
              refine wpO.val rfl (oper_move rfl) rfl ?_
              refine wpO.val rfl (oper_bin rfl rfl (binD_pnn up33)) rfl ?_
              refine wpO.val rfl (oper_move rfl) rfl ?_
              refine wpO.val rfl (oper_move rfl) rfl ?_
              obtain ⟨z148, hzz148, h⟩ := bind_some h
              refine wpO.retM (ins := [.box b147 [(.d (.int .i64 x146.tpl.Kind)), (.d (.int .i64 x146.tpl.N)), (.d (.str x146.tpl.Tag)), (.d (.str x146.tpl.Text)), (.d (.sl ((x146.tpl.Attrs).map encAttr) false)), (.d (.sl ((x146.tpl.Kids).map encTpl) false)), (.d (.sl ((x146.on_).map encOn) false)), (.d (.sl ((x146.state).map (D.int .i64)) false))]]) (more := [.box b8 [(.d (.int .i64 z7.Tpl.Kind)), (.d (.int .i64 z7.Tpl.N)), (.d (.str z7.Tpl.Tag)), (.d (.str z7.Tpl.Text)), (.d (.sl ((z7.Tpl.Attrs).map encAttr) false)), (.d (.sl ((z7.Tpl.Kids).map encTpl) false)), (.d (.sl ((z7.Init).map (D.int .i64)) false)), (.d (.sl ((z7.On).map encOn) false))], .box b39 [(.d (.int .i64 x38.tpl.Kind)), (.d (.int .i64 x38.tpl.N)), (.d (.str x38.tpl.Tag)), (.d (.str x38.tpl.Text)), (.d (.sl ((x38.tpl.Attrs).map encAttr) false)), (.d (.sl ((x38.tpl.Kids).map encTpl) false)), (.d (.sl ((x38.on_).map encOn) false)), (.d (.sl ((x38.state).map (D.int .i64)) false))]]) (H145.sel [0, 1, 2] (by decide) rfl) rfl (oper_callF rfl rfl) (comp_Instance_State_okN E n _ _ hzz148 b147) (.cons (.refl _) .nil) rfl ?_
              rintro v151 S149 _ rfl H150
              replace H150 : Has pureSt S149 [.row 1 v151 ((z148).map (D.int .i64)), .box b147 [(.d (.int .i64 x146.tpl.Kind)), (.d (.int .i64 x146.tpl.N)), (.d (.str x146.tpl.Tag)), (.d (.str x146.tpl.Text)), (.d (.sl ((x146.tpl.Attrs).map encAttr) false)), (.d (.sl ((x146.tpl.Kids).map encTpl) false)), (.d (.sl ((x146.on_).map encOn) false)), (.d (.sl ((x146.state).map (D.int .i64)) false))], .box b8 [(.d (.int .i64 z7.Tpl.Kind)), (.d (.int .i64 z7.Tpl.N)), (.d (.str z7.Tpl.Tag)), (.d (.str z7.Tpl.Text)), (.d (.sl ((z7.Tpl.Attrs).map encAttr) false)), (.d (.sl ((z7.Tpl.Kids).map encTpl) false)), (.d (.sl ((z7.Init).map (D.int .i64)) false)), (.d (.sl ((z7.On).map encOn) false))], .box b39 [(.d (.int .i64 x38.tpl.Kind)), (.d (.int .i64 x38.tpl.N)), (.d (.str x38.tpl.Tag)), (.d (.str x38.tpl.Text)), (.d (.sl ((x38.tpl.Attrs).map encAttr) false)), (.d (.sl ((x38.tpl.Kids).map encTpl) false)), (.d (.sl ((x38.on_).map encOn) false)), (.d (.sl ((x38.state).map (D.int .i64)) false))]] := H150
              refine wpO.val rfl (oper_move rfl) rfl ?_
              obtain ⟨z152, hzz152, h⟩ := bind_some h
              refine wpO.retL (objR1 E).toObjOk rfl (oper_callF rfl rfl) (porticobook_Same_int_ok E n _ _ _ hzz152) rfl (.cons (Lend.row H150 (i := 0) rfl) (.cons (.less (.refl _)) .nil)) rfl ?_
              refine wpO.val rfl (oper_pick (b := true) rfl rfl) rfl ?_
              refine wpO.val rfl (oper_move rfl) rfl ?_
              obtain ⟨z154, hzz154, h⟩ := bind_some h
              refine wpO.groupV 2 151 (.d (.bool z154)) ?_ ?_
              ·
                rcases Bool.eq_false_or_eq_true (z152) with hB153 | hB153
                ·
                  refine wpO.bool hB153 ?_
                  replace hzz154 := if_t hB153 hzz154
                  obtain ⟨z155, hzz155, hzz154⟩ := bind_some hzz154
                  refine wpO.ret rfl (oper_callF rfl rfl) (E.porticolaw17_CompRuns_ok _  _ hzz155 _ _ .nil) rfl ?_
                  refine wpO.val rfl (oper_pick (b := true) rfl rfl) rfl ?_
                  cases hzz154
                  exact wpO.nil ⟨_, rfl, (WeakE.put (WeakE.push rfl (WeakE.put (.refl _) (Less.eq (by rw [hB153])))) (.refl _))⟩
                ·
                  refine wpO.bool hB153 ?_
                  refine wpO.no rfl rfl ?_
                  refine wpO.val rfl (oper_pick (b := false) rfl rfl) rfl ?_
                  replace hzz154 := if_f hB153 hzz154
                  cases hzz154
                  exact wpO.nil ⟨_, rfl, (WeakE.put (WeakE.push rfl (WeakE.put (.refl _) (Less.eq (by rw [hB153])))) (.refl _))⟩
              ·
                refine wpO.val rfl (oper_assign rfl) rfl ?_
                refine wpO.nil ?_
                have hr := Option.some.inj h
                subst hr
                exact WpC.ret ⟨_, rfl, rfl, end1 (ArgsC.eq .nil)⟩
end
end Pr
end Go.Ev


namespace Go.Ev
namespace Pr
set_option linter.unusedVariables false
set_option linter.unusedSimpArgs false

/-! ### Laws of what the functions are made of -/
theorem w64 {n : Int} (h0 : -9223372036854775808 ≤ n) (h1 : n ≤ 9223372036854775807) : IntKind.wrap .i64 n = n := Go.IntWalk.i64_in n ⟨h0, h1⟩
theorem idx_nat {α : Type} (l : List α) (i : Nat) : idx l (i : Int) = l[i]? := by
  unfold idx
  rw [if_pos (by omega)]
  simp
theorem idx_mid {α : Type} {l done rest : List α} {z : α} (h : l = done ++ z :: rest) : idx l (done.length : Int) = some z := by
  rw [idx_nat, h]; simp
theorem idx_in {α : Type} (l : List α) {i : Int} (h0 : 0 ≤ i) (h1 : i < l.length) : ∃ x, idx l i = some x ∧ x ∈ l ∧ l[i.toNat]? = some x := by
  obtain ⟨j, rfl⟩ := Int.eq_ofNat_of_zero_le h0
  have hj : j < l.length := by omega
  exact ⟨l[j], by rw [idx_nat]; exact List.getElem?_eq_getElem hj, List.getElem_mem hj, by simp [hj]⟩
theorem app_ok {α : Type} {nb : Nat} {l ys : List α} (h : (l.length + ys.length) * nb ≤ bound) : app nb l ys = some (l ++ ys) := by
  unfold app; rw [if_pos h]
theorem remI_ok {k : IntKind} {a b : Int} (h : b ≠ 0) : remI k a b = some (a.tmod b) := by
  unfold remI; rw [if_neg h]
theorem bnd : bound = 70368744177664 := rfl
end Pr
end Go.Ev


namespace Go.Ev
namespace Pr
set_option linter.unusedVariables false
set_option linter.unusedSimpArgs false

/-! ### Numbers brought into bounds -/
theorem within_ok (n : Nat) (a lo hi : Int) (h1 : lo ≤ hi) (h2 : -1000000000000 ≤ lo) (h3 : hi ≤ 1000000000000000) : ∃ r, porticobook_Within n a lo hi = some r ∧ lo ≤ r ∧ r ≤ hi := by
  unfold porticobook_Within
  rw [w64 (n := hi - lo) (by omega) (by omega), w64 (by omega) (by omega), remI_ok (by omega), Option.bind_some]
  have k1 := Int.tmod_lt_of_pos a (show 0 < hi - lo + 1 by omega)
  have k2 := Int.lt_tmod_of_pos a (show 0 < hi - lo + 1 by omega)
  unfold porticobook_Within_j8
  by_cases hz : a.tmod (hi - lo + 1) < 0
  · rw [if_pos (by simpa using hz)]
    rw [w64 (n := a.tmod (hi - lo + 1) + hi) (by omega) (by omega), w64 (n := a.tmod (hi - lo + 1) + hi - lo) (by omega) (by omega), w64 (n := a.tmod (hi - lo + 1) + hi - lo + 1) (by omega) (by omega), w64 (by omega) (by omega)]
    exact ⟨_, rfl, by omega, by omega⟩
  · rw [if_neg (by simpa using hz), w64 (by omega) (by omega)]
    exact ⟨_, rfl, by omega, by omega⟩
theorem pick_ok (n : Nat) (l : List Int) (i : Int) (h : 0 ≤ i) : ∃ r, porticokeep_pick n l i = some r := by
  unfold porticokeep_pick
  by_cases h0 : l.length = 0
  · rw [if_pos (by simp; exact List.eq_nil_of_length_eq_zero h0)]; exact ⟨_, rfl⟩
  · rw [if_neg (by simp; intro q; exact h0 (by rw [q]; rfl)), remI_ok (by omega), Option.bind_some]
    have hp : (0 : Int) < (l.length : Int) := by omega
    obtain ⟨x, hx, _⟩ := idx_in l (i := i.tmod l.length) (Int.tmod_nonneg _ h) (Int.tmod_lt_of_pos _ hp)
    exact ⟨x, by rw [hx]; rfl⟩

/-! ### Is there one in a list? -/
theorem on_loop (l : List On) (q : On → Bool) : ∀ (rest done : List On) (f : Nat), l = done ++ rest → rest.length < f → l.length < 1000000 → ∃ r, slices_IndexFunc__api_On_api_On__l13 l (fun y => some (q y)) f (done.length : Int) = some r ∧ decide (0 ≤ r) = rest.any q
  | [], done, f + 1, h, hf, hl => by
    refine ⟨-1, ?_, rfl⟩
    rw [slices_IndexFunc__api_On_api_On__l13, if_neg (by subst h; simp)]
  | z :: rest, done, f + 1, h, hf, hl => by
    have hd : done.length < l.length := by subst h; simp
    rw [slices_IndexFunc__api_On_api_On__l13, if_pos (by rw [decide_eq_true_eq]; omega), idx_mid h, Option.bind_some, Option.bind_some]
    by_cases hq : q z = true
    · rw [if_pos hq]; exact ⟨_, rfl, by simp [hq]⟩
    · rw [if_neg hq, w64 (by omega) (by omega)]
      obtain ⟨r, h1, h2⟩ := on_loop l q rest (done ++ [z]) f (by simp [h]) (by simp at hf; omega) hl
      refine ⟨r, by rw [← h1]; simp, ?_⟩
      rw [h2]; simp [hq]
theorem on_any (n : Nat) (l : List On) (q : On → Bool) (h : l.length < n) (hl : l.length < 1000000) : slices_ContainsFunc__api_On_api_On_ n l (fun y => some (q y)) = some (l.any q) := by
  obtain ⟨r, h1, h2⟩ := on_loop l q l [] n rfl h hl
  unfold slices_ContainsFunc__api_On_api_On_ slices_IndexFunc__api_On_api_On_
  rw [show (0 : Int) = (([] : List On).length : Int) from rfl, h1, Option.bind_some, ← h2]; rfl
theorem int_loop (l : List Int) (q : Int → Bool) : ∀ (rest done : List Int) (f : Nat), l = done ++ rest → rest.length < f → l.length < 1000000 → ∃ r, slices_IndexFunc__int_int__l13 l (fun y => some (q y)) f (done.length : Int) = some r ∧ decide (0 ≤ r) = rest.any q
  | [], done, f + 1, h, hf, hl => by
    refine ⟨-1, ?_, rfl⟩
    rw [slices_IndexFunc__int_int__l13, if_neg (by subst h; simp)]
  | z :: rest, done, f + 1, h, hf, hl => by
    have hd : done.length < l.length := by subst h; simp
    rw [slices_IndexFunc__int_int__l13, if_pos (by rw [decide_eq_true_eq]; omega), idx_mid h, Option.bind_some, Option.bind_some]
    by_cases hq : q z = true
    · rw [if_pos hq]; exact ⟨_, rfl, by simp [hq]⟩
    · rw [if_neg hq, w64 (by omega) (by omega)]
      obtain ⟨r, h1, h2⟩ := int_loop l q rest (done ++ [z]) f (by simp [h]) (by simp at hf; omega) hl
      refine ⟨r, by rw [← h1]; simp, ?_⟩
      rw [h2]; simp [hq]
theorem int_any (n : Nat) (l : List Int) (q : Int → Bool) (h : l.length < n) (hl : l.length < 1000000) : slices_ContainsFunc__int_int_ n l (fun y => some (q y)) = some (l.any q) := by
  obtain ⟨r, h1, h2⟩ := int_loop l q l [] n rfl h hl
  unfold slices_ContainsFunc__int_int_ slices_IndexFunc__int_int_
  rw [show (0 : Int) = (([] : List Int).length : Int) from rfl, h1, Option.bind_some, ← h2]; rfl
/-- A number that may be. -/
def mayB (v : Int) : Bool := decide (-1000 ≤ v) && decide (v ≤ 1000)
theorem may_ok (n : Nat) (v : Int) : comp_may n v = some (mayB v) := rfl
theorem all_ok (n : Nat) (l : List Int) (h : l.length < n) (hl : l.length < 1000000) (hm : ∀ v ∈ l, mayB v = true) : comp_all n l = some true := by
  unfold comp_all
  have e : (fun y2 => comp_all_1 n y2) = fun y => some (!mayB y) := by funext y; unfold comp_all_1; rw [may_ok, Option.bind_some]
  rw [e, int_any n l _ h hl, Option.bind_some]
  have : (l.any fun y => !mayB y) = false := by rw [List.any_eq_false]; intro x hx; simp [hm x hx]
  rw [this]; rfl

/-! ### Hearing -/
/-- What an event does to a state; nothing: it can't be. -/
def plays (e : Str) : List On → List Int → Option (List Int)
  | [], c => some c
  | o :: l, c => if o.Event = e then (if mayB (c.getD o.N.toNat 0 + o.Add) = true then plays e l (c.set o.N.toNat (c.getD o.N.toNat 0 + o.Add)) else none) else plays e l c
def onOk (m : Nat) (o : On) : Prop := 0 ≤ o.N ∧ o.N < m ∧ mayB o.Add = true
theorem mayB_iff {v : Int} : mayB v = true ↔ -1000 ≤ v ∧ v ≤ 1000 := by simp [mayB]
theorem idx_getD {l : List Int} {i : Int} (h0 : 0 ≤ i) (h1 : i < l.length) : idx l i = some (l.getD i.toNat 0) := by
  obtain ⟨x, h, _, h2⟩ := idx_in l h0 h1
  rw [h, List.getD_eq_getElem?_getD, h2]; rfl
theorem plays_len (e : Str) : ∀ (l : List On) (c d : List Int), plays e l c = some d → d.length = c.length
  | [], c, d, h => by cases h; rfl
  | o :: l, c, d, h => by
    unfold plays at h
    split at h
    · split at h
      · rw [plays_len e l _ _ h]; simp
      · cases h
    · exact plays_len e l _ _ h
theorem plays_may (e : Str) : ∀ (l : List On) (c d : List Int), plays e l c = some d → (∀ v ∈ c, mayB v = true) → ∀ v ∈ d, mayB v = true
  | [], c, d, h, hc => by cases h; exact hc
  | o :: l, c, d, h, hc => by
    unfold plays at h
    split at h
    · split at h
      · rename_i hm
        refine plays_may e l _ _ h (fun v hv => ?_)
        rcases List.mem_or_eq_of_mem_set hv with q | q
        · exact hc v q
        · rw [q]; exact hm
      · cases h
    · exact plays_may e l _ _ h hc
theorem getD_may {c : List Int} (hc : ∀ v ∈ c, mayB v = true) (i : Nat) : mayB (c.getD i 0) = true := by
  rw [List.getD_eq_getElem?_getD]
  cases h : c[i]? with
  | none => rfl
  | some x => exact hc x (List.mem_of_getElem? h)
theorem hear_loop (n : Nat) (x : comp_Instance) (e : Str) : ∀ (rest done : List On) (f : Nat) (c : List Int), x.on_ = done ++ rest → rest.length < f → x.on_.length < 1000000 → (∀ o ∈ rest, onOk c.length o) → (∀ v ∈ c, mayB v = true) →
    comp_Instance_Hear_l22 n x e f c (done.length : Int) = some (match plays e rest c with | some d => (0, comp_Instance.mk x.tpl x.on_ d) | none => (7, x))
  | [], done, f + 1, c, h, hf, hl, ho, hc => by
    rw [comp_Instance_Hear_l22, if_neg (by rw [h]; simp)]; rfl
  | o :: rest, done, f + 1, c, h, hf, hl, ho, hc => by
    have hd : done.length < x.on_.length := by rw [h]; simp
    have hi := hear_loop n x e rest (done ++ [o]) f
    obtain ⟨o1, o2, o3⟩ := ho o (by simp)
    rw [comp_Instance_Hear_l22, if_pos (by rw [decide_eq_true_eq]; omega), idx_mid h, Option.bind_some]
    have hN : o.N.toNat < c.length := by omega
    by_cases hq : o.Event = e
    · rw [if_neg (by simp [hq]), idx_getD o1 o2, Option.bind_some]
      have hm := mayB_iff.1 (getD_may hc o.N.toNat)
      have ha := mayB_iff.1 o3
      rw [w64 (by omega) (by omega)]
      unfold setI
      rw [idx_getD o1 (by simp; omega), Option.bind_some, may_ok, Option.bind_some]
      have e1 : (c.set o.N.toNat (c.getD o.N.toNat 0 + o.Add)).getD o.N.toNat 0 = c.getD o.N.toNat 0 + o.Add := by simp [hN]
      rw [e1, plays, if_pos hq]
      by_cases hy : mayB (c.getD o.N.toNat 0 + o.Add) = true
      · rw [if_neg (by rw [hy]; decide), if_pos hy]
        unfold comp_Instance_Hear_j27
        rw [w64 (by omega) (by omega)]
        have := hi (c.set o.N.toNat (c.getD o.N.toNat 0 + o.Add)) (by simp [h]) (by simp at hf; omega) hl (fun p hp => by simpa using ho p (by simp [hp])) (fun v hv => by
          rcases List.mem_or_eq_of_mem_set hv with q | q
          · exact hc v q
          · rw [q]; exact hy)
        simp only [List.length_append, List.length_cons, List.length_nil, Nat.zero_add, Int.natCast_add, Int.cast_ofNat_Int] at this
        rw [this]
      · rw [if_pos (by rw [Bool.not_eq_true] at hy; rw [hy]; rfl), if_neg hy]
    · rw [if_pos (by simp [hq]), plays, if_neg hq]
      unfold comp_Instance_Hear_j27
      rw [w64 (by omega) (by omega)]
      have := hi c (by simp [h]) (by simp at hf; omega) hl (fun p hp => ho p (by simp [hp])) hc
      simp only [List.length_append, List.length_cons, List.length_nil, Nat.zero_add, Int.natCast_add, Int.cast_ofNat_Int] at this
      rw [this]
theorem hears_ok (n : Nat) (x : comp_Instance) (e : Str) (h : x.on_.length < n) (hl : x.on_.length < 1000000) : comp_Instance_Hears n x e = some (x.on_.any fun o => o.Event == e) := by
  unfold comp_Instance_Hears
  rw [show (fun y7 => comp_Instance_Hears_1 n y7 e) = fun o : On => some (o.Event == e) from rfl, on_any n _ _ h hl]; rfl
theorem state_ok (n : Nat) (x : comp_Instance) (hl : x.state.length < 1000000) : comp_Instance_State n x = some x.state := by
  unfold comp_Instance_State slices_Clone__int_int_
  rw [app_ok (by rw [bnd]; simp; omega)]; rfl
/-- What comes of an event. -/
def hears (x : comp_Instance) (e : Str) : Int × comp_Instance :=
  if (x.on_.any fun o => o.Event == e) = true then (match plays e x.on_ x.state with | some d => (0, comp_Instance.mk x.tpl x.on_ d) | none => (7, x)) else (7, x)
theorem hear_ok (n : Nat) (x : comp_Instance) (e : Str) (h : x.on_.length < n) (hl : x.on_.length < 1000000) (hs : x.state.length < 1000000) (ho : ∀ o ∈ x.on_, onOk x.state.length o) (hc : ∀ v ∈ x.state, mayB v = true) : comp_Instance_Hear n x e = some (hears x e) := by
  unfold comp_Instance_Hear hears
  rw [hears_ok n x e h hl, Option.bind_some]
  by_cases hq : (x.on_.any fun o => o.Event == e) = true
  · rw [if_neg (by simp only [hq]; decide), state_ok n x hs, Option.bind_some, if_pos hq]
    exact hear_loop n x e x.on_ [] n x.state rfl h hl ho hc
  · rw [if_pos (by simp only [Bool.not_eq_true] at hq; rw [hq]; rfl), if_neg hq]
theorem sint_loop (a b : List Int) : ∀ (rest done rest2 : List Int) (f : Nat), a = done ++ rest → b = done ++ rest2 → rest.length = rest2.length → rest.length < f → a.length < 1000000 → porticobook_Same_int_l12 a b f (done.length : Int) = some (rest == rest2)
  | [], done, [], f + 1, h, h2, _, hf, hl => by rw [porticobook_Same_int_l12, if_neg (by subst h; simp)]; rfl
  | z :: rest, done, y :: rest2, f + 1, h, h2, he, hf, hl => by
    have hd : done.length < a.length := by subst h; simp
    rw [porticobook_Same_int_l12, if_pos (by rw [decide_eq_true_eq]; omega), idx_mid h, idx_mid h2, Option.bind_some, Option.bind_some]
    by_cases hq : z = y
    · subst hq
      rw [if_neg (by simp), w64 (by omega) (by omega)]
      have := sint_loop a b rest (done ++ [z]) rest2 f (by simp [h]) (by simp [h2]) (by simpa using he) (by simp at hf; omega) hl
      simp only [List.length_append, List.length_cons, List.length_nil, Nat.zero_add, Int.natCast_add, Int.cast_ofNat_Int] at this
      rw [this]; simp
    · rw [if_pos (by simp [hq])]; simp [hq]
theorem sint_ok (n : Nat) (a b : List Int) (h : a.length < n) (hl : a.length < 1000000) : porticobook_Same_int n a b = some (a == b) := by
  unfold porticobook_Same_int
  by_cases he : a.length = b.length
  · rw [if_neg (by simp [he])]
    exact sint_loop a b a [] b n rfl rfl he h hl
  · rw [if_pos (by simp; omega)]
    have : (a == b) = false := by rw [beq_eq_false_iff_ne]; intro q; exact he (by rw [q])
    rw [this]
end Pr
end Go.Ev


namespace Go.Ev
namespace Pr
set_option linter.unusedVariables false
set_option linter.unusedSimpArgs false

/-! ### Components that may be, and their instances -/
def letters : Str := [97, 98, 99, 100, 101, 102, 103, 104, 105, 106, 107, 108, 109, 110, 111, 112, 113, 114, 115, 116, 117, 118, 119, 120, 121, 122, 48, 49, 50, 51, 52, 53, 54, 55, 56, 57]
def onNamed (o : On) : Prop := o.Event ≠ [] ∧ o.Event.length ≤ 16 ∧ strings_Trim 0 o.Event letters = some []
theorem right_loop (n : Nat) (c : Comp) : ∀ (rest done : List On) (f : Nat), c.On = done ++ rest → rest.length < f → c.On.length < 1000000 → (∀ o ∈ rest, onOk c.Init.length o ∧ onNamed o) → comp_Right_l21 n c f (done.length : Int) = some true
  | [], done, f + 1, h, hf, hl, ho => by rw [comp_Right_l21, if_neg (by rw [h]; simp)]
  | o :: rest, done, f + 1, h, hf, hl, ho => by
    have hd : done.length < c.On.length := by rw [h]; simp
    obtain ⟨⟨o1, o2, o3⟩, o4, o5, o6⟩ := ho o (by simp)
    have hT : strings_Trim n o.Event [97, 98, 99, 100, 101, 102, 103, 104, 105, 106, 107, 108, 109, 110, 111, 112, 113, 114, 115, 116, 117, 118, 119, 120, 121, 122, 48, 49, 50, 51, 52, 53, 54, 55, 56, 57] = some [] := o6
    rw [comp_Right_l21, if_pos (by rw [decide_eq_true_eq]; omega), idx_mid h, Option.bind_some]
    rw [if_pos (by simp [o4]; omega), hT, Option.bind_some, Option.bind_some, if_neg (by simp; omega), may_ok, Option.bind_some, Option.bind_some, o3, if_neg (by simp), w64 (by omega) (by omega)]
    have := right_loop n c rest (done ++ [o]) f (by simp [h]) (by simp at hf; omega) hl (fun p hp => ho p (by simp [hp]))
    simp only [List.length_append, List.length_cons, List.length_nil, Nat.zero_add, Int.natCast_add, Int.cast_ofNat_Int] at this
    exact this
theorem cright_ok (n : Nat) (hn : 30 < n) (c : Comp) (h1 : c.Init.length ≤ 6) (h2 : ∀ v ∈ c.Init, mayB v = true) (h3 : c.On.length ≤ 24) (h4 : page_Right n c.Tpl (c.Init.length : Int) = some true) (h5 : ∀ o ∈ c.On, onOk c.Init.length o ∧ onNamed o) : comp_Right n c = some true := by
  unfold comp_Right
  rw [if_neg (by simp; omega), all_ok n c.Init (by omega) (by omega) h2, Option.bind_some, Option.bind_some]
  rw [if_neg (by simp; omega), h4, Option.bind_some, Option.bind_some, if_neg (by simp)]
  exact right_loop n c c.On [] n rfl (by omega) (by omega) h5
theorem from_ok (n : Nat) (hn : 30 < n) (c : Comp) (st : List Int) (h1 : c.Init.length ≤ 6) (h2 : comp_Right n c = some true) (h3 : st.length = c.Init.length) (h4 : ∀ v ∈ st, mayB v = true) (h5 : comp_copied n c.Tpl = some c.Tpl) (h6 : c.On.length ≤ 24) : comp_From n c st = some (some (comp_Instance.mk c.Tpl c.On st)) := by
  unfold comp_From
  rw [h2, Option.bind_some, if_neg (by simp [h3]), all_ok n st (by omega) (by omega) h4, Option.bind_some, Option.bind_some, if_neg (by simp), h5, Option.bind_some]
  unfold slices_Clone__api_On_api_On_ slices_Clone__int_int_
  rw [app_ok (by rw [bnd]; simp; omega), Option.bind_some, app_ok (by rw [bnd]; simp; omega), Option.bind_some]; rfl
theorem new_ok (n : Nat) (c : Comp) (x : comp_Instance) (h : comp_From n c c.Init = some (some x)) : comp_New n c = some (some x) := by
  unfold comp_New
  rw [h]; rfl

end Pr
end Go.Ev


namespace Go.Ev
namespace Pr
set_option linter.unusedVariables false
set_option linter.unusedSimpArgs false

/-! ### Templates: size, depth, what may be -/
mutual
def pcnt : Tpl → Nat
  | .mk _ _ _ _ _ ks => 1 + plcnt ks
def plcnt : List Tpl → Nat
  | [] => 0
  | t :: l => pcnt t + plcnt l
end
mutual
def pdep : Tpl → Nat
  | .mk _ _ _ _ _ ks => 1 + pldep ks
def pldep : List Tpl → Nat
  | [] => 0
  | t :: l => max (pdep t) (pldep l)
end
theorem pcnt_kids (t : Tpl) : pcnt t = 1 + plcnt t.Kids := by cases t; rw [pcnt]; rfl
theorem pdep_kids (t : Tpl) : pdep t = 1 + pldep t.Kids := by cases t; rw [pdep]; rfl
theorem plcnt_app : ∀ (a b : List Tpl), plcnt (a ++ b) = plcnt a + plcnt b
  | [], b => by simp [plcnt]
  | x :: a, b => by simp only [List.cons_append, plcnt, plcnt_app a b]; omega
theorem pldep_app : ∀ (a b : List Tpl), pldep (a ++ b) = max (pldep a) (pldep b)
  | [], b => by simp [pldep]
  | x :: a, b => by simp only [List.cons_append, pldep, pldep_app a b]; omega
theorem plcnt_len : ∀ (l : List Tpl), l.length ≤ plcnt l
  | [] => Nat.le_refl _
  | x :: l => by
    have := plcnt_len l
    have := pcnt_kids x
    simp only [List.length_cons, plcnt]; omega
theorem plcnt_mem : ∀ {l : List Tpl} {z : Tpl}, z ∈ l → pcnt z ≤ plcnt l
  | x :: l, z, h => by
    rcases List.mem_cons.1 h with rfl | h
    · simp only [plcnt]; omega
    · have := plcnt_mem h
      simp only [plcnt]; omega
theorem pcnt_mem {t z : Tpl} (h : z ∈ t.Kids) : pcnt z < pcnt t := by
  have := plcnt_mem h
  have := pcnt_kids t; omega
def outletS : Str := [111, 117, 116, 108, 101, 116]
mutual
/-- A template whose parts are of kinds up to m. -/
def pg (m : Int) : Tpl → Prop
  | .mk k n g x a ks => (1 ≤ k ∧ k ≤ m) ∧ (k ≠ 1 → k ≠ 5 → k ≠ 6 → ks = []) ∧ g ≠ outletS ∧ (0 ≤ n ∧ n ≤ 4) ∧ a.length ≤ 64 ∧ pgs m ks
def pgs (m : Int) : List Tpl → Prop
  | [] => True
  | t :: l => pg m t ∧ pgs m l
end
theorem pgs_mem {m : Int} : ∀ {l : List Tpl}, pgs m l ↔ ∀ z ∈ l, pg m z
  | [] => by simp [pgs]
  | t :: l => by
    rw [pgs, pgs_mem (l := l)]; simp
theorem pg_iff {m : Int} (t : Tpl) : pg m t ↔ (1 ≤ t.Kind ∧ t.Kind ≤ m) ∧ (t.Kind ≠ 1 → t.Kind ≠ 5 → t.Kind ≠ 6 → t.Kids = []) ∧ t.Tag ≠ outletS ∧ (0 ≤ t.N ∧ t.N ≤ 4) ∧ t.Attrs.length ≤ 64 ∧ (∀ z ∈ t.Kids, pg m z) := by
  cases t
  rw [pg, pgs_mem]; rfl
theorem pg_mono : ∀ (m : Nat) (t : Tpl), pcnt t ≤ m → pg 6 t → pg 7 t
  | 0, t, h, _ => by have := pcnt_kids t; omega
  | m + 1, t, h, g => by
    obtain ⟨⟨a1, a2⟩, a3, a4, a5, a6, a7⟩ := (pg_iff t).1 g
    exact (pg_iff t).2 ⟨⟨a1, by omega⟩, a3, a4, a5, a6, fun z hz => pg_mono m z (by have := pcnt_mem hz; omega) (a7 z hz)⟩

theorem count_loop (n : Nat) (self : Tpl → Option (Int × Int)) (t : Tpl) (hs : ∀ z ∈ t.Kids, self z = some ((pcnt z : Int), (pdep z : Int))) (hl : pcnt t < 1000000) (hD : ∀ z ∈ t.Kids, pdep z < 1000000) : ∀ (rest done : List Tpl) (k a d : Nat), t.Kids = done ++ rest → rest.length < k → a + plcnt rest < 2000000 → d < 1000000 →
    page_count_l17 self t k (a : Int) (d : Int) (done.length : Int) = some (((a + plcnt rest : Nat) : Int), ((max d (pldep rest) + 1 : Nat) : Int))
  | [], done, k + 1, a, d, h, hk, ha, hd => by
    rw [page_count_l17, if_neg (by rw [h]; simp), w64 (by omega) (by omega)]
    simp [plcnt, pldep]
  | z :: rest, done, k + 1, a, d, h, hk, ha, hd => by
    have hlen : done.length < t.Kids.length := by rw [h]; simp
    have := plcnt_len t.Kids
    have := pcnt_kids t
    have hz : z ∈ t.Kids := by rw [h]; simp
    have hdz := hD z hz
    simp only [plcnt] at ha
    rw [page_count_l17, if_pos (by rw [decide_eq_true_eq]; omega), idx_mid h, Option.bind_some, hs z hz, Option.bind_some]
    have e : maxI (d : Int) (pdep z : Int) = ((max d (pdep z) : Nat) : Int) := by unfold maxI; split <;> omega
    simp only [e]
    rw [w64 (n := (a : Int) + (pcnt z : Int)) (by omega) (by omega), w64 (n := (done.length : Int) + 1) (by omega) (by omega)]
    have := count_loop n self t hs hl hD rest (done ++ [z]) k (a + pcnt z) (max d (pdep z)) (by simp [h]) (by simp at hk; omega) (by omega) (by omega)
    simp only [List.length_append, List.length_cons, List.length_nil, Nat.zero_add, Int.natCast_add, Int.cast_ofNat_Int] at this
    rw [this]
    simp only [plcnt, pldep, Option.some.injEq, Prod.mk.injEq]
    refine ⟨by omega, by omega⟩
theorem pdep_le : ∀ (m : Nat) (t : Tpl), pcnt t ≤ m → pdep t ≤ pcnt t
  | 0, t, h => by have := pcnt_kids t; omega
  | m + 1, t, h => by
    rw [pcnt_kids, pdep_kids]
    have : ∀ (l : List Tpl), (∀ z ∈ l, pdep z ≤ pcnt z) → pldep l ≤ plcnt l := by
      intro l
      induction l with
      | nil => intro _; exact Nat.le_refl _
      | cons z l ih =>
        intro hz
        have h1 := hz z (by simp)
        have h2 := ih (fun y hy => hz y (by simp [hy]))
        simp only [pldep, plcnt]; omega
    have := this t.Kids (fun z hz => pdep_le m z (by have := pcnt_mem hz; omega))
    omega
theorem count_ok : ∀ (m : Nat) (t : Tpl), pcnt t ≤ m → m < 1000000 → ∀ n, m < n → page_count n t = some ((pcnt t : Int), (pdep t : Int))
  | 0, t, h, _, n, _ => by have := pcnt_kids t; omega
  | m + 1, t, h, hm, n + 1, hn => by
    have hk := pcnt_kids t
    have hlen := plcnt_len t.Kids
    rw [page_count]
    have := count_loop n (page_count n) t (fun z hz => count_ok m z (by have := pcnt_mem hz; omega) (by omega) n (by omega)) (by omega) (fun z hz => by
      have := pdep_le (pcnt z) z (Nat.le_refl _)
      have := pcnt_mem hz; omega) t.Kids [] n 1 0 rfl (by omega) (by omega) (by omega)
    simp only [List.length_nil, Int.natCast_zero, Int.ofNat_zero, Int.cast_ofNat_Int, Int.natCast_one, Int.ofNat_one] at this
    rw [this, pcnt_kids, pdep_kids]
    simp only [Option.some.injEq, Prod.mk.injEq, true_and]
    omega

theorem pright_loop (self : Tpl → Int → Bool → Option Bool) (t : Tpl) (b : Bool) (hl : t.Kids.length < 1000000) : ∀ (rest done : List Tpl) (k : Nat), t.Kids = done ++ rest → rest.length < k → (∀ z ∈ rest, self z 5 ((b || (t.Kind == 5)) || (t.Kind == 6)) = some true) →
    page_right_l33 self t 5 b k (done.length : Int) = some true
  | [], done, k + 1, h, hk, hs => by rw [page_right_l33, if_neg (by rw [h]; simp)]
  | z :: rest, done, k + 1, h, hk, hs => by
    have hlen : done.length < t.Kids.length := by rw [h]; simp
    rw [page_right_l33, if_pos (by rw [decide_eq_true_eq]; omega), idx_mid h, Option.bind_some, hs z (by simp), Option.bind_some, if_neg (by simp), w64 (by omega) (by omega)]
    have := pright_loop self t b hl rest (done ++ [z]) k (by simp [h]) (by simp at hk; omega) (fun y hy => hs y (by simp [hy]))
    simp only [List.length_append, List.length_cons, List.length_nil, Nat.zero_add, Int.natCast_add, Int.cast_ofNat_Int] at this
    exact this
theorem pright_at (n : Nat) (t : Tpl) (b : Bool) (h1 : 1 ≤ t.Kind) (h2 : t.Kind ≤ 7) (h3 : t.Kind ≠ 1 → t.Kind ≠ 5 → t.Kind ≠ 6 → t.Kids = []) (h4 : t.Tag ≠ outletS) (h5 : 0 ≤ t.N ∧ t.N ≤ 4) (h6 : t.Kind = 7 → b = false) (hl : t.Kids.length < n) (hl2 : t.Kids.length < 1000000)
    (hs : ∀ z ∈ t.Kids, page_right n z 5 ((b || (t.Kind == 5)) || (t.Kind == 6)) = some true) : page_right (n + 1) t 5 b = some true := by
  rw [page_right]
  have c1 : (((decide (t.Kind < 1)) || (decide (7 < t.Kind))) || ((!(((t.Kind == 1) || (t.Kind == 5)) || (t.Kind == 6))) && (decide (0 < ((t.Kids).length : Int))))) = false := by
    by_cases k1 : t.Kind = 1
    · simp [k1]
    · by_cases k5 : t.Kind = 5
      · simp [k5]
      · by_cases k6 : t.Kind = 6
        · simp [k6]
        · rw [h3 k1 k5 k6]; simp; omega
  rw [if_neg (by rw [c1]; decide), if_neg (by simpa [outletS] using h4)]
  unfold page_right_j17
  have c2 : ((t.Kind == 7) && b) = false := by
    by_cases k7 : t.Kind = 7
    · rw [h6 k7]; simp
    · simp [k7]
  rw [if_neg (by rw [c2]; decide), if_neg (by simp; intro _; omega)]
  exact pright_loop (page_right n) t b hl2 t.Kids [] n rfl hl hs
theorem pright_ok : ∀ (m : Nat) (t : Tpl), pcnt t ≤ m → m < 1000000 → pg 6 t → ∀ n b, m < n → page_right n t 5 b = some true
  | 0, t, h, _, _, n, _, _ => by have := pcnt_kids t; omega
  | m + 1, t, h, hm, g, n + 1, b, hn => by
    obtain ⟨⟨a1, a2⟩, a3, a4, a5, a6, a7⟩ := (pg_iff t).1 g
    have := plcnt_len t.Kids
    have := pcnt_kids t
    exact pright_at n t b a1 (by omega) a3 a4 a5 (fun q => by omega) (by omega) (by omega) (fun z hz => pright_ok m z (by have := pcnt_mem hz; omega) (by omega) (a7 z hz) n _ (by omega))

/-! ### without outlets -/
mutual
def wo : Tpl → Tpl
  | .mk k n g x a ks => .mk k n g x a (wos ks)
def wos : List Tpl → List Tpl
  | [] => []
  | t :: l => if t.Kind = 7 then wos l else wo t :: wos l
end
theorem wo_eq (t : Tpl) : wo t = .mk t.Kind t.N t.Tag t.Text t.Attrs (wos t.Kids) := by cases t; rw [wo]; rfl
theorem wo_cnt : ∀ (m : Nat) (t : Tpl), pcnt t ≤ m → pcnt (wo t) ≤ pcnt t ∧ pdep (wo t) ≤ pdep t ∧ (pg 7 t → t.Kind ≠ 7 → pg 6 (wo t))
  | 0, t, h => by have := pcnt_kids t; omega
  | m + 1, t, h => by
    have key : ∀ (l : List Tpl), (∀ z ∈ l, z ∈ t.Kids) → plcnt (wos l) ≤ plcnt l ∧ pldep (wos l) ≤ pldep l ∧ ((∀ z ∈ l, pg 7 z) → ∀ y ∈ wos l, pg 6 y) := by
      intro l
      induction l with
      | nil => intro _; exact ⟨Nat.le_refl _, Nat.le_refl _, fun _ y hy => by simp [wos] at hy⟩
      | cons z l ih =>
        intro hz
        obtain ⟨i1, i2, i3⟩ := ih (fun y hy => hz y (by simp [hy]))
        obtain ⟨z1, z2, z3⟩ := wo_cnt m z (by have := pcnt_mem (hz z (by simp)); omega)
        rw [wos]
        by_cases hk : z.Kind = 7
        · rw [if_pos hk]
          refine ⟨by simp only [plcnt]; omega, by simp only [pldep]; omega, fun hg => i3 (fun y hy => hg y (by simp [hy]))⟩
        · rw [if_neg hk]
          refine ⟨by simp only [plcnt]; omega, by simp only [pldep]; omega, fun hg y hy => ?_⟩
          rcases List.mem_cons.1 hy with rfl | hy
          · exact z3 (hg z (by simp)) hk
          · exact i3 (fun y hy => hg y (by simp [hy])) y hy
    obtain ⟨k1, k2, k3⟩ := key t.Kids (fun z hz => hz)
    have e := wo_eq t
    refine ⟨?_, ?_, fun g hk => ?_⟩
    · rw [e, pcnt_kids, pcnt_kids t]; show 1 + plcnt (wos t.Kids) ≤ _; omega
    · rw [e, pdep_kids, pdep_kids t]; show 1 + pldep (wos t.Kids) ≤ _; omega
    · obtain ⟨⟨a1, a2⟩, a3, a4, a5, a6, a7⟩ := (pg_iff t).1 g
      rw [e]
      refine (pg_iff _).2 ⟨⟨a1, by show t.Kind ≤ 6; omega⟩, fun q1 q5 q6 => ?_, a4, a5, a6, k3 a7⟩
      show wos t.Kids = []
      rw [a3 q1 q5 q6]; rfl
theorem without_loop (self : Tpl → Option Tpl) (t : Tpl) (hs : ∀ z ∈ t.Kids, self z = some (wo z)) (hl : t.Kids.length < 1000000) : ∀ (rest done acc : List Tpl) (k : Nat), t.Kids = done ++ rest → rest.length < k → acc.length ≤ done.length →
    porticokeep_without_l20 self t k acc (done.length : Int) = some (.mk t.Kind t.N t.Tag t.Text t.Attrs (acc ++ wos rest))
  | [], done, acc, k + 1, h, hk, ha => by
    rw [porticokeep_without_l20, if_neg (by rw [h]; simp)]; simp [wos]
  | z :: rest, done, acc, k + 1, h, hk, ha => by
    have hlen : done.length < t.Kids.length := by rw [h]; simp
    rw [porticokeep_without_l20, if_pos (by rw [decide_eq_true_eq]; omega), idx_mid h, Option.bind_some, wos]
    by_cases hz : z.Kind = 7
    · rw [if_neg (by simp [hz]), if_pos hz]
      unfold porticokeep_without_j26
      rw [w64 (by omega) (by omega)]
      have := without_loop self t hs hl rest (done ++ [z]) acc k (by simp [h]) (by simp at hk; omega) (by simp; omega)
      simp only [List.length_append, List.length_cons, List.length_nil, Nat.zero_add, Int.natCast_add, Int.cast_ofNat_Int] at this
      exact this
    · rw [if_pos (by simp [hz]), if_neg hz, hs z (by rw [h]; simp), Option.bind_some, app_ok (by rw [bnd]; simp; omega), Option.bind_some]
      unfold porticokeep_without_j26
      rw [w64 (by omega) (by omega)]
      have := without_loop self t hs hl rest (done ++ [z]) (acc ++ [wo z]) k (by simp [h]) (by simp at hk; omega) (by simp; omega)
      simp only [List.length_append, List.length_cons, List.length_nil, Nat.zero_add, Int.natCast_add, Int.cast_ofNat_Int] at this
      rw [this]; simp
theorem without_ok : ∀ (m : Nat) (t : Tpl), pcnt t ≤ m → m < 1000000 → ∀ n, m < n → porticokeep_without n t = some (wo t)
  | 0, t, h, _, n, _ => by have := pcnt_kids t; omega
  | m + 1, t, h, hm, n + 1, hn => by
    have := plcnt_len t.Kids
    have := pcnt_kids t
    rw [porticokeep_without]
    have := without_loop (porticokeep_without n) t (fun z hz => without_ok m z (by have := pcnt_mem hz; omega) (by omega) n (by omega)) (by omega) t.Kids [] [] n rfl (by omega) (by simp)
    rw [show ((([] : List Tpl).length : Nat) : Int) = 0 from rfl] at this
    rw [this, wo_eq]; simp

/-! ### copied -/
theorem copied_loop (self : Tpl → Option Tpl) (t : Tpl) (hs : ∀ z ∈ t.Kids, self z = some z) (hl : t.Kids.length < 1000000) : ∀ (rest done : List Tpl) (k : Nat), t.Kids = done ++ rest → rest.length < k →
    comp_copied_l29 self t t.Attrs t.Kids k t.Kids (done.length : Int) = some t
  | [], done, k + 1, h, hk => by
    rw [comp_copied_l29, if_neg (by rw [h]; simp)]; cases t; rfl
  | z :: rest, done, k + 1, h, hk => by
    have hlen : done.length < t.Kids.length := by rw [h]; simp
    rw [comp_copied_l29, if_pos (by rw [decide_eq_true_eq]; omega), idx_mid h, Option.bind_some, hs z (by rw [h]; simp), Option.bind_some, Option.bind_some, w64 (by omega) (by omega)]
    have e : setI t.Kids (done.length : Int) z = t.Kids := by
      unfold setI
      rw [show ((done.length : Int)).toNat = done.length by omega, h, List.set_append_right _ _ (by omega)]; simp
    rw [e]
    have := copied_loop self t hs hl rest (done ++ [z]) k (by simp [h]) (by simp at hk; omega)
    simp only [List.length_append, List.length_cons, List.length_nil, Nat.zero_add, Int.natCast_add, Int.cast_ofNat_Int] at this
    exact this
theorem copied_ok : ∀ (m : Nat) (t : Tpl), pcnt t ≤ m → m < 1000000 → pg 7 t → ∀ n, m < n → comp_copied n t = some t
  | 0, t, h, _, _, n, _ => by have := pcnt_kids t; omega
  | m + 1, t, h, hm, g, n + 1, hn => by
    obtain ⟨_, _, _, _, a6, a7⟩ := (pg_iff t).1 g
    have := plcnt_len t.Kids
    have := pcnt_kids t
    rw [comp_copied]
    unfold slices_Clone__api_Attr_api_Attr_ slices_Clone__api_Tpl_api_Tpl_
    rw [app_ok (by rw [bnd]; simp; omega), Option.bind_some, app_ok (by rw [bnd]; simp; omega), Option.bind_some, List.nil_append, List.nil_append]
    exact copied_loop (comp_copied n) t (fun z hz => copied_ok m z (by have := pcnt_mem hz; omega) (by omega) (a7 z hz) n (by omega)) (by omega) t.Kids [] n rfl (by omega)
end Pr
end Go.Ev


namespace Go.Ev
namespace Pr
set_option linter.unusedVariables false
set_option linter.unusedSimpArgs false

/-! ### A tree out of a row of nodes -/
def n0ok (t : Tpl0) : Prop := (1 ≤ t.Kind ∧ t.Kind ≤ 7) ∧ t.Tag ≠ outletS ∧ (0 ≤ t.N ∧ t.N ≤ 4) ∧ t.Attrs.length ≤ 64
def opens (t : Tpl0) : Prop := t.Kind = 1 ∨ t.Kind = 5 ∨ t.Kind = 6

/-- Nodes that stand below one another, each behind its parent; how deep each is. -/
structure Wd (nodes : List Tpl0) (under : List Int) (lv : List Nat) : Prop where
  lu : under.length = nodes.length
  ll : lv.length = nodes.length
  pos : 0 < nodes.length
  le : nodes.length ≤ 13
  ok : ∀ (j : Nat) (t : Tpl0), nodes[j]? = some t → n0ok t
  root : under[0]? = some (-1) ∧ lv[0]? = some 1
  par : ∀ (j : Nat), 0 < j → j < nodes.length → ∃ (p : Nat) (t : Tpl0) (v : Nat), under[j]? = some (p : Int) ∧ p < j ∧ nodes[p]? = some t ∧ opens t ∧ lv[p]? = some v ∧ lv[j]? = some (v + 1)
  lim : ∀ (j v : Nat), lv[j]? = some v → v ≤ 7 ∧ 1 ≤ v

section
variable {nodes : List Tpl0} {under : List Int} {lv : List Nat}

theorem deep_at (h : Wd nodes under lv) : ∀ (m j v : Nat), j ≤ m → lv[j]? = some v → ∀ (k : Nat) (acc : Int), v + 1 < k → 0 ≤ acc → acc + v ≤ 60 → porticokeep_deep_l13 under k (j : Int) acc = some (acc + v)
  | m, 0, v, _, hv, k + 2, acc, hk, h0, h1 => by
    have hr := h.root
    rw [hr.2] at hv; cases hv
    rw [porticokeep_deep_l13, if_pos (by simp; omega)]
    have : idx under ((0 : Nat) : Int) = some (-1) := by rw [idx_nat]; exact hr.1
    rw [this, Option.bind_some, w64 (by omega) (by omega), porticokeep_deep_l13, if_neg (by simp)]
    rfl
  | m + 1, j + 1, v, hj, hv, k + 1, acc, hk, h0, h1 => by
    have hjl : j + 1 < nodes.length := by
      have := (List.getElem?_eq_some_iff.1 hv).1
      rw [h.ll] at this; exact this
    obtain ⟨p, t, v', hu, hp, _, _, hvp, hvj⟩ := h.par (j + 1) (by omega) hjl
    rw [hv] at hvj; cases hvj
    have hl := (h.lim (j + 1) (v' + 1) hv).1
    rw [porticokeep_deep_l13, if_pos (by simp; omega)]
    have : idx under ((j + 1 : Nat) : Int) = some (p : Int) := by rw [idx_nat]; exact hu
    rw [this, Option.bind_some, w64 (by omega) (by omega)]
    rw [deep_at h m p v' (by omega) hvp k (acc + 1) (by omega) (by omega) (by omega)]
    congr 1
    push_cast; omega
  | m, 0, v, _, hv, 1, acc, hk, _, _ => by omega
theorem deep0_ok (h : Wd nodes under lv) (n : Nat) (hn : 20 < n) {j v : Nat} (hv : lv[j]? = some v) : porticokeep_deep n under (j : Int) = some (v : Int) := by
  have hl := (h.lim j v hv).1
  unfold porticokeep_deep
  rw [deep_at h j j v (Nat.le_refl _) hv n 0 (by omega) (by omega) (by omega)]
  simp

/-- The kids of a node, from a place on. -/
def kidsF (under : List Int) (at_ : Nat) (l : List Nat) : List Nat := l.filter fun j => under[j]? == some (at_ : Int)
def growP (nodes : List Tpl0) (under : List Int) : Nat → Nat → Tpl
  | 0, _ => .mk 0 0 [] [] [] []
  | f + 1, j => match nodes[j]? with
    | some t => .mk t.Kind t.N t.Tag t.Text t.Attrs ((kidsF under j (List.range nodes.length)).map (growP nodes under f))
    | none => .mk 0 0 [] [] [] []
theorem kids_gt (h : Wd nodes under lv) {j i : Nat} {l : List Nat} (hi : i ∈ kidsF under j l) : i < nodes.length ∧ j < i ∧ ∃ v, lv[j]? = some v ∧ lv[i]? = some (v + 1) ∧ ∃ t, nodes[j]? = some t ∧ opens t := by
  obtain ⟨_, h2⟩ := List.mem_filter.1 hi
  have h2 := eq_of_beq h2
  have hil : i < nodes.length := by rw [← h.lu]; exact (List.getElem?_eq_some_iff.1 h2).1
  cases i with
  | zero => rw [h.root.1] at h2; cases h2
  | succ i =>
    obtain ⟨p, t, v, hu, hp, ht, htg, hvp, hvj⟩ := h.par (i + 1) (by omega) hil
    rw [hu] at h2
    have : p = j := by have := Option.some.inj h2; omega
    subst this
    exact ⟨hil, hp, v, hvp, hvj, t, ht, htg⟩
theorem growP_st (h : Wd nodes under lv) : ∀ (f g j : Nat), j < nodes.length → nodes.length ≤ j + f → nodes.length ≤ j + g → growP nodes under f j = growP nodes under g j
  | 0, g, j, hj, hf, _ => by omega
  | f + 1, 0, j, hj, _, hg => by omega
  | f + 1, g + 1, j, hj, hf, hg => by
    rw [growP, growP]
    split
    · congr 1
      apply List.map_congr_left
      intro i hi
      obtain ⟨h1, h2, _⟩ := kids_gt h hi
      exact growP_st h f g i h1 (by omega) (by omega)
    · rfl
def gt (nodes : List Tpl0) (under : List Int) (j : Nat) : Tpl := growP nodes under (nodes.length + 1) j
theorem gt_eq (h : Wd nodes under lv) {j : Nat} {t : Tpl0} (ht : nodes[j]? = some t) : gt nodes under j = .mk t.Kind t.N t.Tag t.Text t.Attrs ((kidsF under j (List.range nodes.length)).map (gt nodes under)) := by
  unfold gt
  rw [growP]
  simp only [ht]
  congr 1
  apply List.map_congr_left
  intro i hi
  obtain ⟨h1, h2, _⟩ := kids_gt h hi
  exact growP_st h _ _ i h1 (by omega) (by omega)

theorem grow_loop (h : Wd nodes under lv) (self : List Tpl0 → List Int → Int → Option Tpl) (j : Nat) (z : Tpl0) (hs : ∀ i, i < nodes.length → j < i → self nodes under (i : Int) = some (gt nodes under i)) : ∀ (m i k : Nat) (acc : List Tpl), nodes.length = i + m → m < k → acc.length ≤ i →
    porticokeep_hang_l25 self nodes under (j : Int) z k acc (i : Int) = some (.mk z.Kind z.N z.Tag z.Text z.Attrs (acc ++ (kidsF under j (List.range' i m)).map (gt nodes under)))
  | 0, i, k + 1, acc, hm, _, _ => by
    rw [porticokeep_hang_l25, if_neg (by rw [hm]; simp)]
    simp [kidsF]
  | m + 1, i, k + 1, acc, hm, hk, ha => by
    have hle := h.le
    have hil : i < under.length := by rw [h.lu]; omega
    rw [porticokeep_hang_l25, if_pos (by rw [hm]; simp; omega), idx_nat, List.getElem?_eq_getElem hil, Option.bind_some]
    rw [List.range'_succ]
    by_cases hu : under[i] = (j : Int)
    · have hin : i ∈ kidsF under j [i] := by simp [kidsF, hil, hu]
      obtain ⟨g1, g2, _⟩ := kids_gt h hin
      rw [if_pos (by simpa using hu), hs i g1 g2, Option.bind_some, app_ok (by rw [bnd]; simp; omega), Option.bind_some]
      unfold porticokeep_hang_j31
      rw [w64 (by omega) (by omega)]
      have := grow_loop h self j z hs m (i + 1) k (acc ++ [gt nodes under i]) (by omega) (by omega) (by simp; omega)
      push_cast at this
      rw [this]
      have : kidsF under j (i :: List.range' (i + 1) m) = i :: kidsF under j (List.range' (i + 1) m) := by
        unfold kidsF; rw [List.filter_cons, if_pos (by simp [hil, hu])]
      rw [this]; simp
    · rw [if_neg (by simpa using hu)]
      unfold porticokeep_hang_j31
      rw [w64 (by omega) (by omega)]
      have := grow_loop h self j z hs m (i + 1) k acc (by omega) (by omega) (by omega)
      push_cast at this
      rw [this]
      have : kidsF under j (i :: List.range' (i + 1) m) = kidsF under j (List.range' (i + 1) m) := by
        unfold kidsF; rw [List.filter_cons, if_neg (by simp [hil, hu])]
      rw [this]
theorem grow_ok (h : Wd nodes under lv) : ∀ (n j : Nat), j < nodes.length → 2 * nodes.length + 2 ≤ j + n → porticokeep_hang n nodes under (j : Int) = some (gt nodes under j)
  | 0, j, hj, hn => by omega
  | n + 1, j, hj, hn => by
    rw [porticokeep_hang, idx_nat, List.getElem?_eq_getElem hj, Option.bind_some]
    have := grow_loop h (porticokeep_hang n) j nodes[j] (fun i hi hji => grow_ok h n i hi (by omega)) nodes.length 0 n [] (by omega) (by omega) (by simp)
    rw [show ((0 : Nat) : Int) = 0 from rfl] at this
    rw [this, gt_eq h (List.getElem?_eq_getElem hj), List.range_eq_range']
    rfl

/-! #### .. its depth, its size -/
theorem gt_good (h : Wd nodes under lv) : ∀ (m j v : Nat), nodes.length ≤ j + m → lv[j]? = some v → pg 7 (gt nodes under j) ∧ pdep (gt nodes under j) + v ≤ 8
  | 0, j, v, hm, hv => by
    have := (List.getElem?_eq_some_iff.1 hv).1
    rw [h.ll] at this; omega
  | m + 1, j, v, hm, hv => by
    have hj : j < nodes.length := by rw [← h.ll]; exact (List.getElem?_eq_some_iff.1 hv).1
    have ht := List.getElem?_eq_getElem hj
    have hv7 := h.lim j v hv
    rw [gt_eq h ht]
    have hk : ∀ i ∈ kidsF under j (List.range nodes.length), pg 7 (gt nodes under i) ∧ pdep (gt nodes under i) + (v + 1) ≤ 8 := fun i hi => by
      obtain ⟨g1, g2, v', g3, g4, _⟩ := kids_gt h hi
      rw [hv] at g3; cases g3
      exact gt_good h m i (v + 1) (by omega) g4
    obtain ⟨a1, a2, a3, a4⟩ := h.ok j _ ht
    refine ⟨(pg_iff _).2 ⟨a1, fun q1 q5 q6 => ?_, a2, a3, a4, fun z hz => ?_⟩, ?_⟩
    · show List.map _ _ = []
      rw [List.map_eq_nil_iff]
      cases hq : kidsF under j (List.range nodes.length) with
      | nil => rfl
      | cons i l =>
        obtain ⟨_, _, _, _, _, t, e1, e2⟩ := kids_gt h (l := List.range nodes.length) (i := i) (j := j) (by rw [hq]; simp)
        rw [ht] at e1; cases e1
        rcases e2 with e | e | e
        · exact absurd e q1
        · exact absurd e q5
        · exact absurd e q6
    · obtain ⟨i, hi, rfl⟩ := List.mem_map.1 hz
      exact (hk i hi).1
    · rw [pdep]
      have : ∀ (l : List Nat), (∀ i ∈ l, pdep (gt nodes under i) + (v + 1) ≤ 8) → pldep (l.map (gt nodes under)) + (v + 1) ≤ 8 := by
        intro l
        induction l with
        | nil => intro _; simp only [List.map_nil, pldep]; omega
        | cons i l ih =>
          intro hl
          have h1 := hl i List.mem_cons_self
          have h2 := ih (fun i hi => hl i (List.mem_cons_of_mem _ hi))
          simp only [List.map_cons, pldep]; omega
      have := this _ (fun i hi => (hk i hi).2)
      omega

def sumIf (p : Nat → Bool) (f : Nat → Nat) : List Nat → Nat
  | [] => 0
  | i :: l => (if p i then f i else 0) + sumIf p f l
theorem sumIf_kids (f : Nat → Tpl) (p : Nat → Bool) : ∀ (l : List Nat), plcnt ((l.filter p).map f) = sumIf p (fun i => pcnt (f i)) l
  | [] => rfl
  | i :: l => by
    rw [List.filter_cons, sumIf]
    by_cases h : p i = true
    · rw [if_pos h, if_pos h, List.map_cons, plcnt, sumIf_kids f p l]
    · rw [if_neg h, if_neg h, sumIf_kids f p l]; omega
theorem sumIf_split (f : Nat → Nat) (p q r : Nat → Bool) : ∀ (l : List Nat), (∀ i ∈ l, p i = (q i || r i) ∧ (q i && r i) = false) → sumIf p f l = sumIf q f l + sumIf r f l
  | [], _ => rfl
  | i :: l, h => by
    obtain ⟨h1, h2⟩ := h i List.mem_cons_self
    have ih := sumIf_split f p q r l (fun i hi => h i (List.mem_cons_of_mem _ hi))
    rw [sumIf, sumIf, sumIf, h1, ih]
    cases hq : q i <;> cases hr : r i <;> simp_all <;> omega
theorem sumIf_none (f : Nat → Nat) (p : Nat → Bool) : ∀ (l : List Nat), (∀ i ∈ l, p i = false) → sumIf p f l = 0
  | [], _ => rfl
  | i :: l, h => by
    rw [sumIf, h i List.mem_cons_self, sumIf_none f p l (fun i hi => h i (List.mem_cons_of_mem _ hi))]; simp
theorem sumIf_app (f : Nat → Nat) (p : Nat → Bool) : ∀ (l m : List Nat), sumIf p f (l ++ m) = sumIf p f l + sumIf p f m
  | [], m => by simp [sumIf]
  | i :: l, m => by rw [List.cons_append, sumIf, sumIf, sumIf_app f p l m]; omega
def ahead (under : List Int) (m : Nat) (j : Nat) : Bool := match under[j]? with
  | some u => decide (u < (m : Int))
  | none => false
theorem forest (h : Wd nodes under lv) : ∀ (d m : Nat), m + d = nodes.length → sumIf (ahead under m) (fun i => pcnt (gt nodes under i)) (List.range' m d) = d
  | 0, m, _ => rfl
  | d + 1, m, hm => by
    have ih := forest h d (m + 1) (by omega)
    have hml : m < nodes.length := by omega
    have hmu : m < under.length := by rw [h.lu]; exact hml
    rw [List.range'_succ, sumIf]
    have hself : ahead under m m = true := by
      unfold ahead
      cases m with
      | zero => rw [h.root.1]; rfl
      | succ m =>
        obtain ⟨p, _, _, hu, hp, _⟩ := h.par (m + 1) (by omega) hml
        rw [hu]; simp; omega
    rw [if_pos hself, gt_eq h (List.getElem?_eq_getElem hml), pcnt]
    unfold kidsF
    rw [sumIf_kids]
    have hr : List.range nodes.length = List.range' 0 (m + 1) ++ List.range' (m + 1) d := by
      have hq := List.range'_append_1 (s := 0) (m := m + 1) (n := d)
      rw [Nat.zero_add] at hq
      rw [List.range_eq_range', hq]
      congr 1; omega
    rw [hr, sumIf_app, sumIf_none _ _ (List.range' 0 (m + 1)) (fun i hi => ?_)]
    · have hsp := sumIf_split (fun i => pcnt (gt nodes under i)) (ahead under (m + 1)) (ahead under m) (fun j => under[j]? == some (m : Int)) (List.range' (m + 1) d) (fun i hi => ?_)
      · rw [hsp] at ih
        omega
      · have hil : i < under.length := by
          have := List.mem_range'_1.1 hi
          rw [h.lu]; omega
        unfold ahead
        rw [List.getElem?_eq_getElem hil]
        generalize under[i] = u
        simp only
        rcases Int.lt_trichotomy u (m : Int) with q | q | q
        · have q1 : u < ((m + 1 : Nat) : Int) := by omega
          have q2 : u ≠ (m : Int) := by omega
          simp only [q, q1, decide_true, Bool.true_or, Bool.true_and, true_and]
          simpa using q2
        · subst q
          have q1 : (m : Int) < ((m + 1 : Nat) : Int) := by omega
          have q2 : ¬ (m : Int) < (m : Int) := by omega
          simp only [q1, q2, decide_true, decide_false, Bool.false_or, Bool.false_and, and_true, beq_self_eq_true]
        · have q1 : ¬ u < ((m + 1 : Nat) : Int) := by omega
          have q2 : ¬ u < (m : Int) := by omega
          have q3 : u ≠ (m : Int) := by omega
          simp only [q1, q2, decide_false, Bool.false_or, Bool.false_and, and_true]
          symm; simpa using q3
    · cases hc : under[i]? == some (m : Int) with
      | false => rfl
      | true =>
        have him := List.mem_range'_1.1 hi
        obtain ⟨_, q, _⟩ := kids_gt h (l := [i]) (i := i) (j := m) (by simp [kidsF, hc])
        omega
theorem gt_cnt (h : Wd nodes under lv) : pcnt (gt nodes under 0) = nodes.length := by
  obtain ⟨d, hd⟩ : ∃ d, nodes.length = d + 1 := ⟨nodes.length - 1, by have := h.pos; omega⟩
  have := forest h nodes.length 0 (by omega)
  rw [hd, List.range'_succ, sumIf] at this
  have h0 : ahead under 0 0 = true := by unfold ahead; rw [h.root.1]; rfl
  rw [if_pos h0, sumIf_none _ _ _ (fun i hi => ?_)] at this
  · rw [hd]; omega
  · have hi' := List.mem_range'_1.1 hi
    obtain ⟨p, _, _, hu, _⟩ := h.par i (by omega) (by omega)
    unfold ahead
    rw [hu]; simp
end
end Pr
end Go.Ev


namespace Go.Ev
namespace Pr
set_option linter.unusedVariables false
set_option linter.unusedSimpArgs false

/-! ### A template of numbers -/
def words : List Str := [[97], [98], [105, 116, 101, 109], [120, 32, 121], [37], [97, 47, 98], [46, 46], [122], [49], [108, 105, 115, 116], [255], [63, 61, 38]]
def tags4 : List Str := [[100, 105, 118], [112], [108, 105], [98]]
def names4 : List Str := [[105, 100], [112, 97], [112, 98], [108, 97, 115, 116]]
theorem wlen : (words.length : Int) = 12 := rfl
theorem tags4_ne : ∀ s ∈ tags4, s ≠ outletS := by decide

section
variable {nodes : List Tpl0} {under : List Int} {lv : List Nat}
theorem getElem?_push {α : Type} (l : List α) (x : α) (j : Nat) : (l ++ [x])[j]? = if j < l.length then l[j]? else if j = l.length then some x else none := by
  by_cases h : j < l.length
  · rw [if_pos h, List.getElem?_append_left h]
  · rw [if_neg h, List.getElem?_append_right (by omega)]
    by_cases h2 : j = l.length
    · rw [if_pos h2, h2]; simp
    · rw [if_neg h2]
      have : ∃ k, j - l.length = k + 1 := ⟨j - l.length - 1, by omega⟩
      obtain ⟨k, hk⟩ := this
      rw [hk]; rfl
theorem push_old {α : Type} {l : List α} {x y : α} {j : Nat} (h : l[j]? = some y) : (l ++ [x])[j]? = some y := by
  rw [List.getElem?_append_left (List.getElem?_eq_some_iff.1 h).1]; exact h
theorem wd_push (h : Wd nodes under lv) (hl : nodes.length ≤ 12) {t : Tpl0} (ht : n0ok t) {p v : Nat} {tp : Tpl0} (hp : nodes[p]? = some tp) (htp : opens tp) (hv : lv[p]? = some v) (h6 : v ≤ 6) : Wd (nodes ++ [t]) (under ++ [(p : Int)]) (lv ++ [v + 1]) where
  lu := by simp [h.lu]
  ll := by simp [h.ll]
  pos := by simp
  le := by simp; omega
  ok := fun j u hu => by
    rw [getElem?_push] at hu
    split at hu
    · exact h.ok j u hu
    · split at hu
      · cases hu; exact ht
      · cases hu
  root := ⟨push_old h.root.1, push_old h.root.2⟩
  par := fun j h0 hj => by
    simp only [List.length_append, List.length_singleton] at hj
    by_cases hjl : j < nodes.length
    · obtain ⟨q, tq, vq, h1, h2, h3, h4, h5, h6⟩ := h.par j h0 hjl
      exact ⟨q, tq, vq, push_old h1, h2, push_old h3, h4, push_old h5, push_old h6⟩
    · have hj : j = nodes.length := by omega
      subst hj
      have hpl := (List.getElem?_eq_some_iff.1 hp).1
      refine ⟨p, tp, v, ?_, hpl, push_old hp, htp, push_old hv, ?_⟩
      · rw [getElem?_push, h.lu, if_neg (by omega), if_pos rfl]
      · rw [getElem?_push, h.ll, if_neg (by omega), if_pos rfl]
  lim := fun j w hw => by
    rw [getElem?_push] at hw
    split at hw
    · exact h.lim j w hw
    · split at hw
      · cases hw; omega
      · cases hw
/-- The root is an element. -/
def rootEl (nodes : List Tpl0) : Prop := ∃ t, nodes[0]? = some t ∧ t.Kind = 1

theorem j54_ok (hl : nodes.length ≤ 12) (hu : under.length ≤ 12) {i : Nat} (hi : i ≤ 20) (again : List Tpl0 → List Int → Int → Option Tpl) (p kd nn : Int) (tag text : Str) (ats : List Attr) :
    porticokeep_Sheet_Tpl_j54 nodes under (i : Int) again p kd nn tag text ats = again (nodes ++ [⟨kd, nn, tag, text, ats⟩]) (under ++ [p]) ((i + 1 : Nat) : Int) := by
  unfold porticokeep_Sheet_Tpl_j54
  rw [app_ok (by rw [bnd]; simp; omega), Option.bind_some, app_ok (by rw [bnd]; simp; omega), Option.bind_some, w64 (by omega) (by omega)]
  rfl
theorem j33_ok (hl : nodes.length ≤ 12) (hu : under.length ≤ 12) (n : Nat) (k : K_Sheet) {i : Nat} (hi : i ≤ 20) (again : List Tpl0 → List Int → Int → Option Tpl) (p : Int) :
    ∃ t, n0ok t ∧ porticokeep_Sheet_Tpl_j33 n k words nodes under (i : Int) again p = again (nodes ++ [t]) (under ++ [p]) ((i + 1 : Nat) : Int) := by
  obtain ⟨r1, e1⟩ := pick_ok n k.Kinds (i : Int) (by omega)
  obtain ⟨kd, k1, k2, k3⟩ := within_ok n r1 1 7 (by omega) (by omega) (by omega)
  obtain ⟨r2, e2⟩ := pick_ok n k.Ns (i : Int) (by omega)
  obtain ⟨nn, n1, n2, n3⟩ := within_ok n r2 0 4 (by omega) (by omega) (by omega)
  obtain ⟨r3, e3⟩ := pick_ok n k.Texts (i : Int) (by omega)
  have go := fun (tag text : Str) (ats : List Attr) => j54_ok hl hu hi again p kd nn tag text ats
  unfold porticokeep_Sheet_Tpl_j33
  rw [e1, Option.bind_some, k1, Option.bind_some, e2, Option.bind_some, n1, Option.bind_some, e3, Option.bind_some]
  simp only []
  have l4 : IntKind.wrap .i64 ((([[100, 105, 118], [112], [108, 105], [98]] : List (List Nat)).length : Int) - 1) = 3 := by rw [w64 (by simp) (by simp)]; rfl
  have l5 : IntKind.wrap .i64 ((([[105, 100], [112, 97], [112, 98], [108, 97, 115, 116]] : List (List Nat)).length : Int) - 1) = 3 := by rw [w64 (by simp) (by simp)]; rfl
  have l12 : IntKind.wrap .i64 ((words.length : Int) - 1) = 11 := by rw [wlen, w64 (by omega) (by omega)]; rfl
  by_cases c1 : kd = 1
  · rw [if_pos (by simp [c1]), l4]
    obtain ⟨q, q1, q2, q3⟩ := within_ok n r3 0 3 (by omega) (by omega) (by omega)
    obtain ⟨tag, t1, t2, _⟩ := idx_in tags4 q2 (by show q < 4; omega)
    have t1' : idx [[100, 105, 118], [112], [108, 105], [98]] q = some tag := t1
    rw [q1, Option.bind_some, t1', Option.bind_some]
    by_cases c3 : (andI .i64 r3 3 == 3) = true
    · rw [if_pos c3]
      obtain ⟨r4, e4⟩ : ∃ r4, quoI .i64 r3 4 = some r4 := ⟨_, by unfold quoI; rw [if_neg (by omega)]⟩
      obtain ⟨q', q1', q2', q3'⟩ := within_ok n r4 0 11 (by omega) (by omega) (by omega)
      obtain ⟨w, w1, _, _⟩ := idx_in words q2' (by rw [wlen]; omega)
      rw [e4, Option.bind_some, l12, q1', Option.bind_some, w1, Option.bind_some]
      exact ⟨_, ⟨⟨k2, k3⟩, tags4_ne tag t2, ⟨n2, n3⟩, by simp⟩, go _ _ _⟩
    · rw [if_neg c3]
      exact ⟨_, ⟨⟨k2, k3⟩, tags4_ne tag t2, ⟨n2, n3⟩, by simp⟩, go _ _ _⟩
  · rw [if_neg (by simp [c1])]
    by_cases c2 : kd = 2
    · rw [if_pos (by simp [c2]), l12]
      obtain ⟨q, q1, q2, q3⟩ := within_ok n r3 0 11 (by omega) (by omega) (by omega)
      obtain ⟨w, w1, _, _⟩ := idx_in words q2 (by rw [wlen]; omega)
      rw [q1, Option.bind_some, w1, Option.bind_some]
      exact ⟨_, ⟨⟨k2, k3⟩, by simp [outletS], ⟨n2, n3⟩, by simp⟩, go _ _ _⟩
    · rw [if_neg (by simp [c2])]
      by_cases c4 : kd = 4
      · rw [if_pos (by simp [c4]), l5]
        obtain ⟨q, q1, q2, q3⟩ := within_ok n r3 0 3 (by omega) (by omega) (by omega)
        obtain ⟨w, w1, _, _⟩ := idx_in names4 q2 (by show q < 4; omega)
        have w1' : idx [[105, 100], [112, 97], [112, 98], [108, 97, 115, 116]] q = some w := w1
        rw [q1, Option.bind_some, w1', Option.bind_some]
        exact ⟨_, ⟨⟨k2, k3⟩, by simp [outletS], ⟨n2, n3⟩, by simp⟩, go _ _ _⟩
      · rw [if_neg (by simp [c4])]
        exact ⟨_, ⟨⟨k2, k3⟩, by simp [outletS], ⟨n2, n3⟩, by simp⟩, go _ _ _⟩
theorem sheet_loop (n : Nat) (hn : 100 < n) (k : K_Sheet) : ∀ (m i f : Nat) (nodes : List Tpl0) (under : List Int) (lv : List Nat), Wd nodes under lv → rootEl nodes → nodes.length = i + 1 → i + m = 11 → m < f →
    ∃ nodes' under' lv', Wd nodes' under' lv' ∧ rootEl nodes' ∧ porticokeep_Sheet_Tpl_l25 n k words f nodes under (i : Int) = porticokeep_hang n nodes' under' 0
  | m, i, f + 1, nodes, under, lv, h, hr, hl, hm, hf => by
    rw [porticokeep_Sheet_Tpl_l25]
    by_cases hc : i < k.Under.length ∧ i < 11
    · obtain ⟨m, rfl⟩ : ∃ m', m = m' + 1 := ⟨m - 1, by omega⟩
      rw [if_pos (by simp; omega), idx_nat, List.getElem?_eq_getElem hc.1, Option.bind_some]
      rw [w64 (n := (nodes.length : Int) - 1) (by omega) (by omega)]
      obtain ⟨q, q1, q2, q3⟩ := within_ok n k.Under[i] 0 ((nodes.length : Int) - 1) (by omega) (by omega) (by omega)
      obtain ⟨t, t1, t2, t3⟩ := idx_in nodes q2 (by omega)
      rw [q1, Option.bind_some, t1, Option.bind_some]
      have go : ∀ (p : Nat) (tp : Tpl0) (v : Nat), nodes[p]? = some tp → opens tp → lv[p]? = some v → v ≤ 6 → ∃ nodes' under' lv', Wd nodes' under' lv' ∧ rootEl nodes' ∧ porticokeep_Sheet_Tpl_j33 n k words nodes under (i : Int) (porticokeep_Sheet_Tpl_l25 n k words f) (p : Int) = porticokeep_hang n nodes' under' 0 := fun p tp v hp htp hv h6 => by
        obtain ⟨t', k1, k2⟩ := j33_ok (nodes := nodes) (under := under) (i := i) (by omega) (by rw [h.lu]; omega) n k (by omega) (porticokeep_Sheet_Tpl_l25 n k words f) (p : Int)
        have hr' : rootEl (nodes ++ [t']) := by
          obtain ⟨t0, h1, h2⟩ := hr
          exact ⟨t0, push_old h1, h2⟩
        obtain ⟨n', u', l', g1, g2, g3⟩ := sheet_loop n hn k m (i + 1) f _ _ _ (wd_push h (by omega) k1 hp htp hv h6) hr' (by simp; omega) (by omega) (by omega)
        exact ⟨n', u', l', g1, g2, by rw [k2, g3]⟩
      have root : ∃ nodes' under' lv', Wd nodes' under' lv' ∧ rootEl nodes' ∧ porticokeep_Sheet_Tpl_j33 n k words nodes under (i : Int) (porticokeep_Sheet_Tpl_l25 n k words f) 0 = porticokeep_hang n nodes' under' 0 := by
        obtain ⟨t0, h1, h2⟩ := hr
        exact go 0 t0 1 h1 (.inl h2) h.root.2 (by omega)
      have hqn : q = (q.toNat : Int) := by omega
      by_cases hb : (((t.Kind != 1) && (t.Kind != 5)) && (t.Kind != 6)) = true
      · rw [if_pos hb, Option.bind_some, if_pos rfl]
        exact root
      · rw [if_neg hb]
        have ho : opens t := by
          simp at hb
          unfold opens
          by_cases a : t.Kind = 1
          · exact .inl a
          · by_cases b : t.Kind = 5
            · exact .inr (.inl b)
            · exact .inr (.inr (hb a b))
        have hql : q.toNat < lv.length := by rw [h.ll]; exact (List.getElem?_eq_some_iff.1 t3).1
        have hv := List.getElem?_eq_getElem hql
        have hd := deep0_ok h n (by omega) hv
        rw [← hqn] at hd
        rw [hd, Option.bind_some, Option.bind_some]
        by_cases h5 : 5 < lv[q.toNat]
        · rw [if_pos (by rw [decide_eq_true_eq]; omega)]
          exact root
        · rw [if_neg (by rw [decide_eq_true_eq]; omega), hqn]
          exact go q.toNat t _ t3 ho hv (by omega)
    · rw [if_neg (by simp; omega)]
      exact ⟨nodes, under, lv, h, hr, by cases porticokeep_hang n nodes under 0 <;> rfl⟩
end
theorem sheet_ok (k : K_Sheet) (n : Nat) (hn : 100 < n) : ∃ t, porticokeep_Sheet_Tpl n k = some t ∧ pg 7 t ∧ pcnt t ≤ 13 ∧ pdep t ≤ 7 ∧ t.Kind = 1 := by
  have h0 : Wd [⟨1, 0, [109, 97, 105, 110], [], []⟩] [-1] [1] := by
    refine ⟨rfl, rfl, by simp, by simp, fun j t ht => ?_, ⟨rfl, rfl⟩, fun j h1 h2 => ?_, fun j v hv => ?_⟩
    · cases j with
      | zero => simp at ht; subst ht; exact ⟨⟨by simp, by simp⟩, by simp [outletS], ⟨by simp, by simp⟩, by simp⟩
      | succ j => simp at ht
    · simp at h2; omega
    · cases j with
      | zero => simp at hv; subst hv; omega
      | succ j => simp at hv
  obtain ⟨nodes, under, lv, h, hr, he⟩ := sheet_loop n hn k 11 0 n _ _ _ h0 ⟨_, rfl, rfl⟩ rfl rfl (by omega)
  have hle := h.le
  have hg := gt_good h nodes.length 0 1 (by omega) h.root.2
  have hc := gt_cnt h
  obtain ⟨t0, r1, r2⟩ := hr
  refine ⟨gt nodes under 0, ?_, hg.1, by rw [hc]; exact hle, by omega, by rw [gt_eq h r1]; exact r2⟩
  unfold porticokeep_Sheet_Tpl porticokeep_Words
  rw [Option.bind_some]
  have := grow_ok h n 0 h.pos (by omega)
  rw [show ((0 : Nat) : Int) = 0 from rfl] at this he
  rw [← this, ← he]
  rfl
/-- A template without outlets, but one at its end, if there is to be one. -/
theorem plain_ok (n : Nat) (hn : 100 < n) (t : Tpl) (o : Bool) (g : pg 7 t) (hc : pcnt t ≤ 13) (hd : pdep t ≤ 7) (hk : t.Kind = 1) : ∃ u, porticokeep_Plain n t o = some u ∧ pg 7 u ∧ pcnt u ≤ 14 ∧ page_Right n u 5 = some true := by
  obtain ⟨c1, c2, c3⟩ := wo_cnt _ t (Nat.le_refl _)
  have g6 := c3 g (by omega)
  have hwk : (wo t).Kind = 1 := by rw [wo_eq]; exact hk
  have hlen := plcnt_len (wo t).Kids
  have hpk := pcnt_kids (wo t)
  have hpd := pdep_kids (wo t)
  obtain ⟨⟨a1, a2⟩, a3, a4, a5, a6, a7⟩ := (pg_iff _).1 g6
  have fin : ∀ u, pg 7 u → pcnt u ≤ 14 → pdep u ≤ 9 → u.Kind = 1 → page_right n u 5 false = some true → page_Right n u 5 = some true := fun u h1 h2 h3 h4 h5 => by
    unfold page_Right
    rw [count_ok 14 u h2 (by omega) n (by omega), Option.bind_some, if_pos (by simp [h4]; omega), h5]; rfl
  unfold porticokeep_Plain
  rw [without_ok 13 t hc (by omega) n (by omega), Option.bind_some]
  cases o with
  | false =>
    rw [if_neg (by simp)]
    unfold porticokeep_Plain_j22
    have e : Tpl.mk (wo t).Kind (wo t).N (wo t).Tag (wo t).Text (wo t).Attrs (wo t).Kids = wo t := by cases wo t; rfl
    rw [e]
    exact ⟨_, rfl, pg_mono _ _ (Nat.le_refl _) g6, by omega, fin _ (pg_mono _ _ (Nat.le_refl _) g6) (by omega) (by omega) hwk (pright_ok 13 _ (by omega) (by omega) g6 n false (by omega))⟩
  | true =>
    rw [if_pos rfl, app_ok (by rw [bnd]; simp; omega), Option.bind_some]
    unfold porticokeep_Plain_j22
    have go : pg 7 (Tpl.mk 7 0 [] [] [] []) := (pg_iff _).2 ⟨⟨by decide, by decide⟩, fun _ _ _ => rfl, by decide, ⟨by decide, by decide⟩, by decide, fun z hz => by cases hz⟩
    have hp : pg 7 (Tpl.mk (wo t).Kind (wo t).N (wo t).Tag (wo t).Text (wo t).Attrs ((wo t).Kids ++ [Tpl.mk 7 0 [] [] [] []])) := by
      refine (pg_iff _).2 ⟨⟨a1, by show (wo t).Kind ≤ 7; omega⟩, fun q => absurd hwk q, a4, a5, a6, fun z hz => ?_⟩
      rcases List.mem_append.1 hz with hz | hz
      · exact pg_mono _ _ (Nat.le_refl _) (a7 z hz)
      · rw [List.mem_singleton.1 hz]; exact go
    have hcn : pcnt (Tpl.mk (wo t).Kind (wo t).N (wo t).Tag (wo t).Text (wo t).Attrs ((wo t).Kids ++ [Tpl.mk 7 0 [] [] [] []])) ≤ 14 := by
      rw [pcnt, plcnt_app]; simp only [plcnt, pcnt]; omega
    have hdp : pdep (Tpl.mk (wo t).Kind (wo t).N (wo t).Tag (wo t).Text (wo t).Attrs ((wo t).Kids ++ [Tpl.mk 7 0 [] [] [] []])) ≤ 9 := by
      rw [pdep, pldep_app]; simp only [pldep, pdep]; omega
    refine ⟨_, rfl, hp, hcn, fin _ hp hcn hdp hwk ?_⟩
    obtain ⟨n, rfl⟩ : ∃ q, n = q + 1 := ⟨n - 1, by omega⟩
    refine pright_at n _ false a1 (by show (wo t).Kind ≤ 7; omega) (fun q => absurd hwk q) a4 a5 (fun _ => rfl) (by show List.length (_ ++ _) < n; simp; omega) (by show List.length (_ ++ _) < _; simp; omega) (fun z hz => ?_)
    have hb : ((false || ((wo t).Kind == 5)) || ((wo t).Kind == 6)) = false := by rw [hwk]; rfl
    show page_right n z 5 ((false || ((wo t).Kind == 5)) || ((wo t).Kind == 6)) = some true
    rw [hb]
    rcases List.mem_append.1 hz with hz | hz
    · exact pright_ok 13 z (by have := pcnt_mem hz; omega) (by omega) (a7 z hz) n false (by omega)
    · rw [List.mem_singleton.1 hz]
      obtain ⟨n, rfl⟩ : ∃ q, n = q + 1 := ⟨n - 1, by omega⟩
      exact pright_at n _ false (by decide) (by decide) (fun _ _ _ => rfl) (by decide) ⟨by decide, by decide⟩ (fun _ => rfl) (by show 0 < n; omega) (by decide) (fun z hz => by cases hz)
end Pr
end Go.Ev


namespace Go.Ev
namespace Pr
set_option linter.unusedVariables false
set_option linter.unusedSimpArgs false

/-! ### A component of numbers -/
def partOn (o : On) : Prop := onOk 5 o ∧ onNamed o ∧ -3 ≤ o.Add ∧ o.Add ≤ 3
def events3 : List Str := [[117, 112], [100, 111, 119, 110], [97]]
theorem events3_ok : ∀ s ∈ events3, s ≠ [] ∧ s.length ≤ 16 ∧ strings_Trim 0 s letters = some [] := by
  intro s hs
  simp only [events3, List.mem_cons, List.not_mem_nil, or_false] at hs
  rcases hs with rfl | rfl | rfl <;> exact ⟨by decide, by decide, rfl⟩
theorem adds_loop (n : Nat) (k : K_Part) (t : Tpl) (ini : List Int) : ∀ (m i f : Nat) (acc : List On), acc.length = i → i + m = 5 → m < f → (∀ o ∈ acc, partOn o) →
    ∃ ons : List On, ons.length ≤ 5 ∧ (∀ o ∈ ons, partOn o) ∧ porticokeep_Part_Comp_l59 n k t ini f acc (i : Int) = some (Comp.mk t ini ons)
  | m, i, f + 1, acc, hl, hm, hf, ho => by
    rw [porticokeep_Part_Comp_l59]
    by_cases hc : i < k.Adds.length ∧ i < 5
    · obtain ⟨m, rfl⟩ : ∃ m', m = m' + 1 := ⟨m - 1, by omega⟩
      rw [if_pos (by simp; omega), remI_ok (by omega), Option.bind_some]
      have h3 : (i : Int).tmod 3 = ((i % 3 : Nat) : Int) := by rw [Int.tmod_eq_emod_of_nonneg (by omega)]; omega
      have hi3 : i % 3 < 3 := Nat.mod_lt _ (by omega)
      obtain ⟨s, s1, s2, _⟩ := idx_in events3 (i := (i : Int).tmod 3) (by rw [h3]; omega) (by rw [h3]; show _ < (3 : Int); omega)
      have s1' : idx [[117, 112], [100, 111, 119, 110], [97]] ((i : Int).tmod 3) = some s := s1
      rw [s1', Option.bind_some, idx_nat, List.getElem?_eq_getElem hc.1, Option.bind_some]
      obtain ⟨q, q1, q2, q3⟩ := within_ok n k.Adds[i] 0 4 (by omega) (by omega) (by omega)
      obtain ⟨r4, e4⟩ : ∃ r4, quoI .i64 k.Adds[i] 5 = some r4 := ⟨_, by unfold quoI; rw [if_neg (by omega)]⟩
      obtain ⟨d, d1, d2, d3⟩ := within_ok n r4 (-3) 3 (by omega) (by omega) (by omega)
      rw [q1, Option.bind_some, e4, Option.bind_some, d1, Option.bind_some, app_ok (by rw [bnd]; simp; omega), Option.bind_some, w64 (by omega) (by omega)]
      exact adds_loop n k t ini m (i + 1) f _ (by simp [hl]) (by omega) (by omega) (fun o hx => by
        rcases List.mem_append.1 hx with hx | hx
        · exact ho o hx
        · rw [List.mem_singleton.1 hx]
          exact ⟨⟨q2, by show q < 5; omega, by rw [mayB_iff]; show -1000 ≤ d ∧ d ≤ 1000; omega⟩, events3_ok s s2, d2, d3⟩)
    · rw [if_neg (by simp; omega)]
      exact ⟨acc, by omega, ho, rfl⟩
theorem init_loop (n : Nat) (hn : 100 < n) (k : K_Part) (t : Tpl) : ∀ (m i f : Nat) (acc : List Int), acc.length = i → i + m = 5 → m < f → (∀ v ∈ acc, mayB v = true) →
    ∃ (ini : List Int) (ons : List On), ini.length = 5 ∧ (∀ v ∈ ini, mayB v = true) ∧ ons.length ≤ 5 ∧ (∀ o ∈ ons, partOn o) ∧ porticokeep_Part_Comp_l32 n k t f acc (i : Int) = some (Comp.mk t ini ons)
  | 0, i, f + 1, acc, hl, hm, hf, ho => by
    rw [porticokeep_Part_Comp_l32, if_neg (by simp; omega)]
    obtain ⟨ons, o1, o2, o3⟩ := adds_loop n k t acc 5 0 n [] rfl rfl (by omega) (fun o ho => by cases ho)
    exact ⟨acc, ons, by omega, ho, o1, o2, o3⟩
  | m + 1, i, f + 1, acc, hl, hm, hf, ho => by
    rw [porticokeep_Part_Comp_l32, if_pos (by simp; omega)]
    obtain ⟨r, e⟩ := pick_ok n k.Init (i : Int) (by omega)
    obtain ⟨q, q1, q2, q3⟩ := within_ok n r (-2) 4 (by omega) (by omega) (by omega)
    rw [e, Option.bind_some, q1, Option.bind_some, app_ok (by rw [bnd]; simp; omega), Option.bind_some, w64 (by omega) (by omega)]
    exact init_loop n hn k t m (i + 1) f _ (by simp [hl]) (by omega) (by omega) (fun v hx => by
      rcases List.mem_append.1 hx with hx | hx
      · exact ho v hx
      · rw [List.mem_singleton.1 hx, mayB_iff]; omega)
/-- What a component of numbers is. -/
structure Good (n : Nat) (c : Comp) : Prop where
  il : c.Init.length = 5
  im : ∀ v ∈ c.Init, mayB v = true
  ol : c.On.length ≤ 5
  oo : ∀ o ∈ c.On, partOn o
  cp : comp_copied n c.Tpl = some c.Tpl
  rt : comp_Right n c = some true
theorem part_ok (k : K_Part) (n : Nat) (hn : 100 < n) : ∃ c, porticokeep_Part_Comp n k = some c ∧ Good n c := by
  obtain ⟨t, t1, t2, t3, t4, t5⟩ := sheet_ok k.Page n hn
  obtain ⟨u, u1, u2, u3, u4⟩ := plain_ok n hn t k.Outlet t2 t3 t4 t5
  obtain ⟨ini, ons, i1, i2, i3, i4, i5⟩ := init_loop n hn k u 5 0 n [] rfl rfl (by omega) (fun v hv => by cases hv)
  refine ⟨Comp.mk u ini ons, ?_, i1, i2, i3, i4, copied_ok 14 u u3 (by omega) u2 n (by omega), cright_ok n (by omega) _ (by show ini.length ≤ 6; omega) i2 (by show ons.length ≤ 24; omega) ?_ (fun o ho => ?_)⟩
  · unfold porticokeep_Part_Comp
    rw [t1, Option.bind_some, u1, Option.bind_some]
    exact i5
  · show page_Right n u (ini.length : Int) = _
    rw [i1]; exact u4
  · obtain ⟨p1, p2, _⟩ := i4 o ho
    exact ⟨by show onOk ini.length o; rw [i1]; exact p1, p2⟩

/-! ### CompHears -/
section
variable {n : Nat} {c : Comp}
def inst (c : Comp) (st : List Int) : comp_Instance := comp_Instance.mk c.Tpl c.On st
theorem copy_ok (hn : 100 < n) (g : Good n c) (st : List Int) (hl : st.length = 5) : comp_Instance_Copy n (inst c st) = some (some (inst c st)) := by
  have := g.ol
  unfold comp_Instance_Copy
  rw [show (inst c st).tpl = c.Tpl from rfl, g.cp, Option.bind_some]
  unfold slices_Clone__api_On_api_On_
  rw [show (inst c st).on_ = c.On from rfl, app_ok (by rw [bnd]; simp; omega), Option.bind_some, state_ok _ _ (by show st.length < 1000000; omega)]; rfl
theorem hear_inst (hn : 100 < n) (g : Good n c) (st : List Int) (hl : st.length = 5) (hm : ∀ v ∈ st, mayB v = true) (e : Str) : comp_Instance_Hear n (inst c st) e = some (hears (inst c st) e) := by
  have := g.ol
  refine hear_ok n _ e (by show c.On.length < n; omega) (by show c.On.length < _; omega) (by show st.length < _; omega) (fun o ho => ?_) hm
  show onOk st.length o
  rw [hl]; exact (g.oo o ho).1
theorem j110_ok (hn : 100 < n) (g : Good n c) (a3 : Bool) (st st' : List Int) (hl : st.length = 5) (hm : ∀ v ∈ st, mayB v = true) (hl' : st'.length = 5) (hm' : ∀ v ∈ st', mayB v = true) {i : Nat} (hi : i ≤ 30) (again : comp_Instance → List Int → Int → Option Bool) (e : Str) (w : Int) (hh : hears (inst c st) e = (w, inst c st')) :
    porticolaw17_CompHears_j110 n a3 (inst c st) (i : Int) again e (c.On.any fun o => o.Event == e) st' w = again (inst c st') st' ((i + 1 : Nat) : Int) := by
  have := g.ol
  unfold porticolaw17_CompHears_j110
  rw [hears_ok n _ e (by show c.On.length < n; omega) (by show c.On.length < _; omega), Option.bind_some]
  rw [if_neg (by simp [inst])]
  rw [hear_inst hn g st hl hm e, Option.bind_some, hh]
  rw [if_neg (by simp)]
  simp only []
  rw [state_ok n (inst c st') (by show st'.length < _; omega), Option.bind_some, sint_ok n _ _ (by show st'.length < _; omega) (by show st'.length < _; omega), Option.bind_some, if_neg (by simp [inst])]
  by_cases hb : (a3 && ((andI .i64 (i : Int) 3) == 1)) = true
  · rw [if_pos hb, copy_ok hn g st' hl', Option.bind_some]
    show ((comp_Instance_Hear n (inst c st') e).bind _) = _
    rw [hear_inst hn g st' hl' hm' e, Option.bind_some]
    unfold porticolaw17_CompHears_j58
    rw [w64 (by omega) (by omega)]; rfl
  · rw [if_neg hb]
    unfold porticolaw17_CompHears_j58
    rw [w64 (by omega) (by omega)]; rfl
theorem l80_ok (a3 : Bool) (x : comp_Instance) (st : List Int) (i : Int) (again : comp_Instance → List Int → Int → Option Bool) (e : Str) : ∀ (rest done : List On) (f : Nat) (cur : List Int) (hd my : Bool), c.On = done ++ rest → rest.length < f → c.On.length ≤ 5 → (∀ o ∈ rest, partOn o) → cur.length = 5 → (∀ v ∈ cur, -1100 + 3 * (rest.length : Int) ≤ v ∧ v ≤ 1100 - 3 * (rest.length : Int)) →
    ∃ nx hd' my', porticolaw17_CompHears_l80 n a3 c x st i again e f cur hd my (done.length : Int) = (if (hd' && my') = true then porticolaw17_CompHears_j110 n a3 x i again e hd' nx 0 else porticolaw17_CompHears_j110 n a3 x i again e hd' st 7) ∧ hd' = (hd || rest.any fun o => o.Event == e) ∧ (my = false → my' = false) ∧ (my = true → (∀ v ∈ cur, mayB v = true) → (my' = true → plays e rest cur = some nx) ∧ (my' = false → plays e rest cur = none))
  | [], done, f + 1, cur, hd, my, h, hf, hl, ho, hc, hb => by
    rw [porticolaw17_CompHears_l80, if_neg (by rw [h]; simp)]
    exact ⟨cur, hd, my, rfl, by simp, fun q => q, fun q _ => ⟨fun _ => rfl, fun q2 => by rw [q] at q2; cases q2⟩⟩
  | o :: rest, done, f + 1, cur, hd, my, h, hf, hl, ho, hc, hb => by
    have hlen : done.length < c.On.length := by rw [h]; simp
    have hrl : rest.length ≤ 4 := by rw [h] at hl; simp at hl; omega
    obtain ⟨⟨o1, o2, o3⟩, _, o5, o6⟩ := ho o (by simp)
    rw [porticolaw17_CompHears_l80, if_pos (by rw [decide_eq_true_eq]; omega), idx_mid h, Option.bind_some]
    simp only [List.length_cons] at hb
    have ih := fun cur hd my => l80_ok a3 x st i again e rest (done ++ [o]) f cur hd my (by simp [h]) (by simp at hf; omega) hl (fun p hp => ho p (by simp [hp]))
    simp only [List.length_append, List.length_cons, List.length_nil, Nat.zero_add, Int.natCast_add, Int.cast_ofNat_Int] at ih
    by_cases hq : o.Event = e
    · rw [if_pos (by simp [hq]), idx_getD o1 (by rw [hc]; exact o2), Option.bind_some]
      have hN : o.N.toNat < cur.length := by omega
      have hv : cur.getD o.N.toNat 0 ∈ cur := by rw [List.getD_eq_getElem?_getD, List.getElem?_eq_getElem hN]; exact List.getElem_mem hN
      have hvb := hb _ hv
      rw [w64 (n := cur.getD o.N.toNat 0 + o.Add) (by omega) (by omega)]
      unfold setI
      have e1 : (cur.set o.N.toNat (cur.getD o.N.toNat 0 + o.Add)).getD o.N.toNat 0 = cur.getD o.N.toNat 0 + o.Add := by simp [hN]
      rw [idx_getD (l := cur.set o.N.toNat (cur.getD o.N.toNat 0 + o.Add)) o1 (by simp; omega), e1]
      unfold porticolaw17_CompHears_j87
      rw [w64 (n := (done.length : Int) + 1) (by omega) (by omega)]
      obtain ⟨nx, hd', my', k1, k2, k3, k4⟩ := ih (cur.set o.N.toNat (cur.getD o.N.toNat 0 + o.Add)) true (my && mayB (cur.getD o.N.toNat 0 + o.Add)) (by simp [hc]) (fun v hv => by
        rcases List.mem_or_eq_of_mem_set hv with q | q
        · have := hb v q; omega
        · rw [q]; omega)
      have hz : (((if my = true then (some (cur.getD o.N.toNat 0 + o.Add)).bind fun z100 => some (decide (z100 ≤ 1000)) else some false).bind fun z101 => (if z101 = true then (some (cur.getD o.N.toNat 0 + o.Add)).bind fun z103 => some (decide ((-1000) ≤ z103)) else some false)) : Option Bool) = some (my && mayB (cur.getD o.N.toNat 0 + o.Add)) := by
        generalize cur.getD o.N.toNat 0 + o.Add = w
        unfold mayB
        cases my <;> simp
        by_cases c1 : w ≤ 1000 <;> by_cases c2 : -1000 ≤ w <;> simp [c1, c2]
      refine ⟨nx, hd', my', ?_, ?_, ?_, ?_⟩
      · rw [← k1]
        generalize (cur.getD o.N.toNat 0 + o.Add) = w at *
        cases hmy : my with
        | false => simp
        | true =>
          simp only [if_true, Option.bind_some, Bool.true_and, mayB]
          by_cases c1 : w ≤ 1000
          · simp [c1]
          · simp [c1]
      · rw [k2]; simp [hq]
      · intro q; exact k3 (by rw [q]; rfl)
      · intro q hmc
        rw [plays, if_pos hq]
        by_cases hy : mayB (cur.getD o.N.toNat 0 + o.Add) = true
        · rw [if_pos hy]
          exact k4 (by rw [q, hy]; rfl) (fun v hv => by
            rcases List.mem_or_eq_of_mem_set hv with q | q
            · exact hmc v q
            · rw [q]; exact hy)
        · rw [if_neg hy]
          rw [Bool.not_eq_true] at hy
          have := k3 (by rw [hy]; simp)
          exact ⟨fun q2 => (by rw [this] at q2; cases q2), fun _ => rfl⟩
    · rw [if_neg (by simp [hq])]
      unfold porticolaw17_CompHears_j87
      rw [w64 (n := (done.length : Int) + 1) (by omega) (by omega)]
      obtain ⟨nx, hd', my', k1, k2, k3, k4⟩ := ih cur hd my hc (fun v hv => by have := hb v hv; omega)
      exact ⟨nx, hd', my', k1, (by rw [k2, List.any_cons, beq_eq_false_iff_ne.2 hq, Bool.false_or]), k3, fun q hmc => by rw [plays, if_neg hq]; exact k4 q hmc⟩
theorem l42_ok (hn : 100 < n) (g : Good n c) (a2 : List Str) (a3 : Bool) : ∀ (m i k : Nat) (st : List Int), i + m = 30 → m < k → st.length = 5 → (∀ v ∈ st, mayB v = true) → porticolaw17_CompHears_l42 n a2 a3 c k (inst c st) st (i : Int) = some true
  | m, i, k + 1, st, hi, hk, hl, hm => by
    have hol := g.ol
    rw [porticolaw17_CompHears_l42]
    by_cases hc : i < a2.length ∧ i < 30
    · obtain ⟨m, rfl⟩ : ∃ m', m = m' + 1 := ⟨m - 1, by omega⟩
      rw [if_pos (by simp; omega), idx_nat, List.getElem?_eq_getElem hc.1, Option.bind_some]
      obtain ⟨e, he⟩ : ∃ e, cut a2[i] 0 (minI ((a2[i]).length : Int) 6) = some e := ⟨_, by unfold cut; rw [if_pos]; unfold minI; split <;> omega⟩
      rw [he, Option.bind_some, app_ok (by rw [bnd]; simp; omega), Option.bind_some, List.nil_append]
      obtain ⟨nx, hd, my, k1, k2, _, k4⟩ := l80_ok (n := n) (c := c) a3 (inst c st) st (i : Int) (porticolaw17_CompHears_l42 n a2 a3 c k) e c.On [] n st false true rfl (by omega) hol g.oo hl (fun v hv => by
        have := mayB_iff.1 (hm v hv); omega)
      rw [show ((([] : List On).length : Nat) : Int) = 0 from rfl] at k1
      rw [k1]
      simp only [Bool.false_or] at k2
      obtain ⟨p1, p2⟩ := k4 rfl hm
      by_cases hb : (hd && my) = true
      · rw [if_pos hb]
        rw [Bool.and_eq_true] at hb
        have hp := p1 hb.2
        have l1 := plays_len _ _ _ _ hp
        have l2 := plays_may _ _ _ _ hp hm
        have hh : hears (inst c st) e = (0, inst c nx) := by
          unfold hears
          rw [show (inst c st).on_ = c.On from rfl, ← k2, if_pos hb.1, show (inst c st).state = st from rfl, hp]; rfl
        rw [k2, j110_ok hn g a3 st nx hl hm (by omega) l2 (by omega) _ e 0 hh]
        exact l42_ok hn g a2 a3 m (i + 1) k nx (by omega) (by omega) (by omega) l2
      · rw [if_neg hb]
        have hh : hears (inst c st) e = (7, inst c st) := by
          unfold hears
          rw [show (inst c st).on_ = c.On from rfl, ← k2]
          cases hd with
          | false => rfl
          | true =>
            cases my with
            | true => exact absurd rfl hb
            | false => rw [if_pos rfl, show (inst c st).state = st from rfl, p2 rfl]
        rw [k2, j110_ok hn g a3 st st hl hm hl hm (by omega) _ e 7 hh]
        exact l42_ok hn g a2 a3 m (i + 1) k st (by omega) (by omega) hl hm
    · rw [if_neg (by simp; omega), from_ok n (by omega) c st (by have := g.il; omega) g.rt (by rw [g.il]; exact hl) hm g.cp (by omega), Option.bind_some]
      show ((comp_Instance_State n (inst c st)).bind _) = _
      rw [state_ok n (inst c st) (by show st.length < _; omega), Option.bind_some, sint_ok n _ _ (by show st.length < _; omega) (by show st.length < _; omega), Option.bind_some, if_pos (by simp [inst])]
      rfl
end
theorem compHears_ok (a1 : K_Part) (a2 : List Str) (a3 : Bool) : porticolaw17_CompHears 1000 a1 a2 a3 = some true := by
  obtain ⟨c, c1, g⟩ := part_ok a1 1000 (by omega)
  have hol := g.ol
  have hil := g.il
  unfold porticolaw17_CompHears
  rw [c1, Option.bind_some, new_ok 1000 c _ (from_ok 1000 (by omega) c c.Init (by omega) g.rt rfl g.im g.cp (by omega)), Option.bind_some]
  show ((comp_Right 1000 c).bind _) = _
  rw [g.rt, Option.bind_some, if_neg (by simp), app_ok (by rw [bnd]; simp; omega), Option.bind_some, List.nil_append]
  exact l42_ok (by omega) g a2 a3 30 0 1000 c.Init (by omega) (by omega) hil g.im
end Pr
end Go.Ev


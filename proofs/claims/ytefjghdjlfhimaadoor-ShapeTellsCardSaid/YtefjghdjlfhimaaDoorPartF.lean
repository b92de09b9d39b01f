import Derived.Test.YtefjghdjlfhimaaDoorPartE
import Derived.IntWalk
namespace Go.Ev
namespace Pr
set_option linter.unusedVariables false
set_option linter.unusedSimpArgs false
open Go.Proofs
section
variable {R : ObjR} (E : PrOk R)
include E
set_option maxHeartbeats 4000000 in
theorem porticolaw13_ShapeTells_ok (n : Nat) (a1 : K_Wood) (a2 : K_Wood) (r : Bool) (h : porticolaw13_ShapeTells n a1 a2 = some r) : SpecC R cfg.P 4 [(encK_Wood a1), (encK_Wood a2)] (.d (.bool r)) := by
  unfold porticolaw13_ShapeTells at h
  refine SpecC.of_wp (objR1 E).toObjOk (C := cfgR1) Tryd.func4 rfl nm4 rfl ?_
  have H0 : Has pureSt pureSt [] := Has.pure
  refine WpC.seq ?_
  refine WpC.region (objR1 E) rfl ?_
  refine wpO.box H0 rfl rfl rfl (K_Wood.cellsA _) rfl (fun b3 S4 H5 => ?_)
  refine wpO.box H5 rfl rfl rfl (K_Wood.cellsA _) rfl (fun b6 S7 H8 => ?_)
  refine wpO.val rfl (oper_assign rfl) rfl ?_
  refine wpO.nil ?_
  refine WpC.seq ?_
  obtain ⟨z10, hzz10, h⟩ := bind_some h
  obtain ⟨z11, hzz11, h⟩ := bind_some h
  have hT9 : ∀ x ∈ ([Fact.pure 6 [(Ev.mkAgg [(.d (.sl ((a1.Under).map (D.int .i64)) false)), (.d (.sl ((a1.Kinds).map (D.int .i64)) false)), (.d (.sl ((a1.Keys).map (D.int .i64)) false)), (.d (.sl ((a1.Texts).map (D.int .i64)) false))])] (.d (encTree z10)), Fact.pure 6 [(Ev.mkAgg [(.d (.sl ((a2.Under).map (D.int .i64)) false)), (.d (.sl ((a2.Kinds).map (D.int .i64)) false)), (.d (.sl ((a2.Keys).map (D.int .i64)) false)), (.d (.sl ((a2.Texts).map (D.int .i64)) false))])] (.d (encTree z11))] : List Fact), x.ok R cfg.P := (facts_cons (SpecC.fact (porticokeep_Wood_Tree_ok E _ _ _ hzz10) (ArgsC.seq (ArgsC.less_agg (d := encK_Wood a1) (CellsC.eq rfl (CellsC.eq rfl (CellsC.eq rfl (CellsC.eq rfl .nil)))) ((K_Wood.eq _).trans rfl)) .nil)) (facts_cons (SpecC.fact (porticokeep_Wood_Tree_ok E _ _ _ hzz11) (ArgsC.seq (ArgsC.less_agg (d := encK_Wood a2) (CellsC.eq rfl (CellsC.eq rfl (CellsC.eq rfl (CellsC.eq rfl .nil)))) ((K_Wood.eq _).trans rfl)) .nil)) facts_nil))
  have hpT9 := pureT hT9 rfl
  refine WpC.drawn2 (objR1 E) hmix hT9 (by kernel_rfl) [b3, b6] [1, 0, 1, 0, 3, 3, 4, 4] 4 5 [0, 1, 2, 3, 4, 5, 6, 7] [0, 1, 2, 3, 5, 4, 6, 7] (by kernel_rfl) (fun e S => ∃ b12 b15, WeakE [(0, (.d (encK_Wood a1))), (1, (.d (encK_Wood a2))), (2, (.ptr b3 0 0)), (3, (.ptr b6 0 0)), (4, (.d (.bool false))), (5, (.ptr b12 0 0)), (6, (.ptr b15 0 0)), (11, (Ev.mkAgg [(.d (.sl ((a1.Under).map (D.int .i64)) false)), (.d (.sl ((a1.Kinds).map (D.int .i64)) false)), (.d (.sl ((a1.Keys).map (D.int .i64)) false)), (.d (.sl ((a1.Texts).map (D.int .i64)) false))])), (12, (.d (encTree z10))), (13, (Ev.mkAgg [(.d (.sl ((a2.Under).map (D.int .i64)) false)), (.d (.sl ((a2.Kinds).map (D.int .i64)) false)), (.d (.sl ((a2.Keys).map (D.int .i64)) false)), (.d (.sl ((a2.Texts).map (D.int .i64)) false))])), (14, (.d (encTree z11)))] e ∧ Has pureSt S [.box b15 [(.d (.str z11.Tag)), (.d (.str z11.Key)), (.d (.str z11.Text)), (.d (.sl ((z11.Attrs).map encAttr) false)), (.d (.sl ((z11.Kids).map encTree) false))], .box b12 [(.d (.str z10.Tag)), (.d (.str z10.Key)), (.d (.str z10.Text)), (.d (.sl ((z10.Attrs).map encAttr) false)), (.d (.sl ((z10.Kids).map encTree) false))], .box b6 [(.d (.sl ((a2.Under).map (D.int .i64)) false)), (.d (.sl ((a2.Kinds).map (D.int .i64)) false)), (.d (.sl ((a2.Keys).map (D.int .i64)) false)), (.d (.sl ((a2.Texts).map (D.int .i64)) false))], .box b3 [(.d (.sl ((a1.Under).map (D.int .i64)) false)), (.d (.sl ((a1.Kinds).map (D.int .i64)) false)), (.d (.sl ((a1.Keys).map (D.int .i64)) false)), (.d (.sl ((a1.Texts).map (D.int .i64)) false))]]) ?_ ?_ ?_
  ·
    refine wpD.read rfl rfl (idsIn (L := [b3]) rfl (by simp)) rfl (oper_load H8 (i := 1) rfl rfl (part_agg ag24 sz24 rfl)) rfl ?_
    refine wpD.ret hpT9 rfl rfl (oper_callF rfl rfl) (lookT' 0 rfl rfl (by
        intro a' v' hm ha
        simp only [List.mem_cons, List.not_mem_nil, or_false, Fact.pure.injEq] at hm
        rcases hm with ⟨hf0, rfl, rfl⟩ | ⟨hf1, rfl, rfl⟩
        · rfl
        · obtain ⟨he0, ha⟩ := List.cons.inj ha; have hx0 := K_Wood.inj a2 a1 (AV.d.inj he0); have hq := hzz11; rw [hx0] at hq; rw [hzz10] at hq; rw [Option.some.inj hq])) (ArgsC.isSome (ArgsC.seq (ArgsC.less_agg (d := encK_Wood a1) (CellsC.eq rfl (CellsC.eq rfl (CellsC.eq rfl (CellsC.eq rfl .nil)))) ((K_Wood.eq _).trans rfl)) .nil)) rfl rfl rfl rfl ?_
    refine wpD.read rfl rfl (idsIn (L := [b6]) rfl (by simp)) rfl (oper_load H8 (i := 0) rfl rfl (part_agg ag24 sz24 rfl)) rfl ?_
    refine wpD.ret hpT9 rfl rfl (oper_callF rfl rfl) (lookT' 1 rfl rfl (by
        intro a' v' hm ha
        simp only [List.mem_cons, List.not_mem_nil, or_false, Fact.pure.injEq] at hm
        rcases hm with ⟨hf0, rfl, rfl⟩ | ⟨hf1, rfl, rfl⟩
        · obtain ⟨he0, ha⟩ := List.cons.inj ha; have hx0 := K_Wood.inj a1 a2 (AV.d.inj he0); have hq := hzz10; rw [hx0] at hq; rw [hzz11] at hq; rw [Option.some.inj hq]
        · rfl)) (ArgsC.isSome (ArgsC.seq (ArgsC.less_agg (d := encK_Wood a2) (CellsC.eq rfl (CellsC.eq rfl (CellsC.eq rfl (CellsC.eq rfl .nil)))) ((K_Wood.eq _).trans rfl)) .nil)) rfl rfl rfl rfl ?_
    refine wpD.alloc H8 rfl rfl ob28R1 zo28 rfl rfl (fun b12 S13 H14 => ?_)
    refine wpD.alloc H14 rfl rfl ob28R1 zo28 rfl rfl (fun b15 S16 H17 => ?_)
    refine wpD.store4 H17 (by
        intro z hz
        simp only [List.mem_cons, List.not_mem_nil, or_false] at hz
        rcases hz with rfl | rfl
        · exact H17.boxNe (i := 3) (j := 1) (by decide) rfl rfl
        · exact H17.boxNe (i := 2) (j := 1) (by decide) rfl rfl) (j := 1) rfl rfl rfl rfl rfl (Tree.cellsA _) rfl sz28 rfl as28 rfl rfl rfl (fun S18 H19 => ?_)
    refine wpD.store4 H19 (by
        intro z hz
        simp only [List.mem_cons, List.not_mem_nil, or_false] at hz
        rcases hz with rfl | rfl
        · exact H19.boxNe (i := 3) (j := 0) (by decide) rfl rfl
        · exact H19.boxNe (i := 2) (j := 0) (by decide) rfl rfl) (j := 0) rfl rfl rfl rfl rfl (Tree.cellsA _) rfl sz28 rfl as28 rfl rfl rfl (fun S20 H21 => ?_)
    exact ⟨b12, b15, (WeakE.cons rfl (.refl _) (WeakE.cons rfl (.refl _) (WeakE.cons rfl (.refl _) (WeakE.cons rfl (.refl _) (WeakE.cons rfl (.refl _) (WeakE.cons rfl (.refl _) (WeakE.cons rfl (.refl _) (WeakE.cons rfl (.refl _) (WeakE.cons rfl (.refl _) (WeakE.cons rfl (.refl _) (WeakE.cons rfl (.refl _) WeakE.nil))))))))))), H21⟩
  ·
    refine wpD.read rfl rfl (idsIn (L := [b3]) rfl (by simp)) rfl (oper_load H8 (i := 1) rfl rfl (part_agg ag24 sz24 rfl)) rfl ?_
    refine wpD.ret hpT9 rfl rfl (oper_callF rfl rfl) (lookT' 0 rfl rfl (by
        intro a' v' hm ha
        simp only [List.mem_cons, List.not_mem_nil, or_false, Fact.pure.injEq] at hm
        rcases hm with ⟨hf0, rfl, rfl⟩ | ⟨hf1, rfl, rfl⟩
        · rfl
        · obtain ⟨he0, ha⟩ := List.cons.inj ha; have hx0 := K_Wood.inj a2 a1 (AV.d.inj he0); have hq := hzz11; rw [hx0] at hq; rw [hzz10] at hq; rw [Option.some.inj hq])) (ArgsC.isSome (ArgsC.seq (ArgsC.less_agg (d := encK_Wood a1) (CellsC.eq rfl (CellsC.eq rfl (CellsC.eq rfl (CellsC.eq rfl .nil)))) ((K_Wood.eq _).trans rfl)) .nil)) rfl rfl rfl rfl ?_
    refine wpD.read rfl rfl (idsIn (L := [b6]) rfl (by simp)) rfl (oper_load H8 (i := 0) rfl rfl (part_agg ag24 sz24 rfl)) rfl ?_
    refine wpD.ret hpT9 rfl rfl (oper_callF rfl rfl) (lookT' 1 rfl rfl (by
        intro a' v' hm ha
        simp only [List.mem_cons, List.not_mem_nil, or_false, Fact.pure.injEq] at hm
        rcases hm with ⟨hf0, rfl, rfl⟩ | ⟨hf1, rfl, rfl⟩
        · obtain ⟨he0, ha⟩ := List.cons.inj ha; have hx0 := K_Wood.inj a1 a2 (AV.d.inj he0); have hq := hzz10; rw [hx0] at hq; rw [hzz11] at hq; rw [Option.some.inj hq]
        · rfl)) (ArgsC.isSome (ArgsC.seq (ArgsC.less_agg (d := encK_Wood a2) (CellsC.eq rfl (CellsC.eq rfl (CellsC.eq rfl (CellsC.eq rfl .nil)))) ((K_Wood.eq _).trans rfl)) .nil)) rfl rfl rfl rfl ?_
    refine wpD.alloc H8 rfl rfl ob28R1 zo28 rfl rfl (fun b15 S13 H22 => ?_)
    refine wpD.alloc H22 rfl rfl ob28R1 zo28 rfl rfl (fun b12 S16 H23 => ?_)
    have H14 : Has pureSt S16 [.box b12 [(.d (.str [])), (.d (.str [])), (.d (.str [])), (.d .nils), (.d .nils)], .box b6 [(.d (.sl ((a2.Under).map (D.int .i64)) false)), (.d (.sl ((a2.Kinds).map (D.int .i64)) false)), (.d (.sl ((a2.Keys).map (D.int .i64)) false)), (.d (.sl ((a2.Texts).map (D.int .i64)) false))], .box b3 [(.d (.sl ((a1.Under).map (D.int .i64)) false)), (.d (.sl ((a1.Kinds).map (D.int .i64)) false)), (.d (.sl ((a1.Keys).map (D.int .i64)) false)), (.d (.sl ((a1.Texts).map (D.int .i64)) false))]] := H23.sel [0, 2, 3] (by decide) rfl
    have H17 : Has pureSt S16 [.box b15 [(.d (.str [])), (.d (.str [])), (.d (.str [])), (.d .nils), (.d .nils)], .box b12 [(.d (.str [])), (.d (.str [])), (.d (.str [])), (.d .nils), (.d .nils)], .box b6 [(.d (.sl ((a2.Under).map (D.int .i64)) false)), (.d (.sl ((a2.Kinds).map (D.int .i64)) false)), (.d (.sl ((a2.Keys).map (D.int .i64)) false)), (.d (.sl ((a2.Texts).map (D.int .i64)) false))], .box b3 [(.d (.sl ((a1.Under).map (D.int .i64)) false)), (.d (.sl ((a1.Kinds).map (D.int .i64)) false)), (.d (.sl ((a1.Keys).map (D.int .i64)) false)), (.d (.sl ((a1.Texts).map (D.int .i64)) false))]] := H23.sel [1, 0, 2, 3] (by decide) rfl
    refine wpD.store4 H17 (by
        intro z hz
        simp only [List.mem_cons, List.not_mem_nil, or_false] at hz
        rcases hz with rfl | rfl
        · exact H17.boxNe (i := 3) (j := 1) (by decide) rfl rfl
        · exact H17.boxNe (i := 2) (j := 1) (by decide) rfl rfl) (j := 1) rfl rfl rfl rfl rfl (Tree.cellsA _) rfl sz28 rfl as28 rfl rfl rfl (fun S18 H19 => ?_)
    refine wpD.store4 H19 (by
        intro z hz
        simp only [List.mem_cons, List.not_mem_nil, or_false] at hz
        rcases hz with rfl | rfl
        · exact H19.boxNe (i := 3) (j := 0) (by decide) rfl rfl
        · exact H19.boxNe (i := 2) (j := 0) (by decide) rfl rfl) (j := 0) rfl rfl rfl rfl rfl (Tree.cellsA _) rfl sz28 rfl as28 rfl rfl rfl (fun S20 H21 => ?_)
    exact ⟨b12, b15, (WeakE.cons rfl (.refl _) (WeakE.cons rfl (.refl _) (WeakE.cons rfl (.refl _) (WeakE.cons rfl (.refl _) (WeakE.cons rfl (.refl _) (WeakE.cons rfl (.refl _) (WeakE.cons rfl (.refl _) (WeakE.cons rfl (.refl _) (WeakE.cons rfl (.refl _) (WeakE.cons rfl (.refl _) (WeakE.cons rfl (.refl _) WeakE.nil))))))))))), H21⟩
  rintro e24 S25 ⟨b12, b15, hw26, H27⟩
  refine WpC.weak hw26 ?_
  refine WpC.seq ?_
  refine WpC.region (objR1 E) rfl ?_
  refine wpO.val rfl (oper_load H27 (i := 1) rfl rfl (part_agg ag28 sz28 rfl)) rfl ?_
  refine wpO.less (Less.agg' (d := encTree z10) (CellsC.eq rfl (CellsC.eq rfl (CellsC.eq rfl (CellsC.eq rfl (CellsC.eq rfl .nil))))) ((Tree.eq _).trans rfl)) ?_
  obtain ⟨z29, hzz29, h⟩ := bind_some h
  refine wpO.retN H27 rfl (oper_callF rfl rfl) (shape_Copy_okN E n _ _ hzz29) (ArgsC.eq .nil) rfl ?_
  rintro _ S31 _ ⟨v35, rfl, rfl⟩ H32
  refine wpO.alloc H32 rfl ob28R1 zo28 rfl rfl (fun b36 S37 H38 => ?_)
  refine wpO.store H38 (i := 0) rfl rfl rfl rfl (mkAgg_cells _) rfl sz28 (mkAgg_plain _) as28 rfl rfl rfl (fun S39 H40 => ?_)
  refine wpO.nil ?_
  refine WpC.seq ?_
  refine WpC.region (objR1 E) rfl ?_
  refine wpO.val rfl (oper_load H40 (i := 3) rfl rfl (part_agg ag28 sz28 rfl)) rfl ?_
  refine wpO.less (Less.agg' (d := encTree z10) (CellsC.eq rfl (CellsC.eq rfl (CellsC.eq rfl (CellsC.eq rfl (CellsC.eq rfl .nil))))) ((Tree.eq _).trans rfl)) ?_
  obtain ⟨z41, hzz41, h⟩ := bind_some h
  refine wpO.ret rfl (oper_callF rfl rfl) (porticokeep_Measure_ok E _ _ _ hzz41 _ _ (ArgsC.eq .nil)) rfl ?_
  refine wpO.val rfl (oper_move rfl) rfl ?_
  refine wpO.val rfl (oper_extract rfl rfl) rfl ?_
  refine wpO.val rfl (oper_extract rfl rfl) rfl ?_
  refine wpO.val rfl (oper_extract rfl rfl) rfl ?_
  refine wpO.val rfl (oper_assign rfl) rfl ?_
  refine wpO.val rfl (oper_assign rfl) rfl ?_
  refine wpO.val rfl (oper_assign rfl) rfl ?_
  refine wpO.nil ?_
  refine WpC.seq ?_
  refine WpC.join (B := pureSt) (α := Bool) (fun a => porticolaw13_ShapeTells_j45 n z10 z29 a = some r) (fun a => [(5, (.ptr b12 0 0)), (7, (.ptr b36 0 0)), (64, (.d (.bool a)))]) (fun a => [.box b36 [(.d (.str z29.Tag)), (.d (.str z29.Key)), (.d (.str z29.Text)), (.d (.sl ((z29.Attrs).map encAttr) false)), v35], .row 5 v35 ((z29.Kids).map encTree), .box b12 [(.d (.str z10.Tag)), (.d (.str z10.Key)), (.d (.str z10.Text)), (.d (.sl ((z10.Attrs).map encAttr) false)), (.d (.sl ((z10.Kids).map encTree) false))]]) ?_ ?_
  ·
    intro x44 S42 H43 h
    replace h : porticolaw13_ShapeTells_j45 n z10 z29 x44 = some r := h
    replace H43 : Has pureSt S42 [.box b36 [(.d (.str z29.Tag)), (.d (.str z29.Key)), (.d (.str z29.Text)), (.d (.sl ((z29.Attrs).map encAttr) false)), v35], .row 5 v35 ((z29.Kids).map encTree), .box b12 [(.d (.str z10.Tag)), (.d (.str z10.Key)), (.d (.str z10.Text)), (.d (.sl ((z10.Attrs).map encAttr) false)), (.d (.sl ((z10.Kids).map encTree) false))]] := H43
    unfold porticolaw13_ShapeTells_j45 at h
    refine WpC.cond rfl (fun hb46 => ?_) (fun hb46 => ?_)
    ·
      replace h := if_t hb46 h
      refine WpC.seq ?_
      refine WpC.region (objR1 E) rfl ?_
      refine wpO.val rfl (oper_assign rfl) rfl ?_
      refine wpO.nil ?_
      have hr := Option.some.inj h
      subst hr
      exact WpC.ret ⟨_, rfl, rfl, end1 (ArgsC.eq .nil)⟩
    ·
      replace h := if_f hb46 h
      refine WpC.skip ?_
      refine WpC.join (B := pureSt) (α := (List Tree)) (fun a => porticolaw13_ShapeTells_j50 n a = some r) (fun a => []) (fun a => []) ?_ ?_
      ·
        intro x49 S47 H48 h
        replace h : porticolaw13_ShapeTells_j50 n x49 = some r := h
        replace H48 : Has pureSt S47 [] := H48
        unfold porticolaw13_ShapeTells_j50 at h
        refine WpC.seq ?_
        refine WpC.region (objR1 E) rfl ?_
        obtain ⟨z51, hzz51, h⟩ := bind_some h
        refine wpO.ret rfl (oper_callF rfl rfl) (E.porticolaw13_ShapeRuns_ok _  _ hzz51 _ _ .nil) rfl ?_
        refine wpO.val rfl (oper_assign rfl) rfl ?_
        refine wpO.nil ?_
        have hr := Option.some.inj h
        subst hr
        exact WpC.ret ⟨_, rfl, rfl, end1 (ArgsC.eq .nil)⟩
      ·
        refine WpC.seq ?_
        refine WpC.region (objR1 E) rfl ?_
        refine wpO.val rfl (oper_fieldAddr rfl fo28_4 nz26 rfl) rfl ?_
        refine wpO.val rfl (oper_load H43 (i := 0) rfl rfl (part_one ag26 rfl)) rfl ?_
        refine wpO.val rfl (oper_lenR H43 (i := 1) rfl rfl es26) rfl ?_
        refine wpO.val rfl (oper_bin rfl rfl binD_gtr) rfl ?_
        refine wpO.nil ?_
        refine WpC.cond rfl (fun hb52 => ?_) (fun hb52 => ?_)
        ·
          replace h := if_t hb52 h
          refine WpC.seq ?_
          refine WpC.region (objR1 E) rfl ?_
          refine wpO.val rfl (oper_fieldAddr rfl fo28_4 nz26 rfl) rfl ?_
          refine wpO.val rfl (oper_load H43 (i := 0) rfl rfl (part_one ag26 rfl)) rfl ?_
          obtain ⟨z53, hzz53, h⟩ := bind_some h
          refine wpO.rowIdxP (enc := encTree) H43 rfl (i := 1) rfl rfl rfl hzz53 el26 as28 ((Tree.len _).trans sz28.symm) rfl ?_
          refine wpO.rowFieldP H43 (i := 1) rfl hzz53 rfl rfl fo28_0 nz9 rfl rfl ?_
          refine wpO.rowStoreP (enc := encTree) (z' := (Tree.mk [122, 122] z53.Key z53.Text z53.Attrs z53.Kids)) (cv := [(.str [122, 122])]) H43 rfl (i := 1) rfl hzz53 rfl rfl rfl (.cons (.refl _) .nil) sz9 rfl as9 (by rw [Tree.len]; rfl) (by rw [Tree.cells, Tree.cells]; rfl) (Tree.flat _) (fun S54 H55 => ?_)
          refine wpO.nil ?_
          refine WpC.seq ?_
          refine WpC.region (objR1 E) rfl ?_
          refine wpO.val rfl (oper_fieldAddr rfl fo28_4 nz26 rfl) rfl ?_
          refine wpO.val rfl (oper_load H55 (i := 0) rfl rfl (part_one ag26 rfl)) rfl ?_
          obtain ⟨z56, hzz56, h⟩ := bind_some h
          refine wpO.rowIdxP (enc := encTree) H55 rfl (i := 1) rfl rfl rfl hzz56 el26 as28 ((Tree.len _).trans sz28.symm) rfl ?_
          refine wpO.rowFieldP H55 (i := 1) rfl hzz56 rfl rfl fo28_1 nz9 rfl rfl ?_
          refine wpO.rowStoreP (enc := encTree) (z' := (Tree.mk z56.Tag [111, 116, 104, 101, 114] z56.Text z56.Attrs z56.Kids)) (cv := [(.str [111, 116, 104, 101, 114])]) H55 rfl (i := 1) rfl hzz56 rfl rfl rfl (.cons (.refl _) .nil) sz9 rfl as9 (by rw [Tree.len]; rfl) (by rw [Tree.cells, Tree.cells]; rfl) (Tree.flat _) (fun S57 H58 => ?_)
          refine wpO.nil ?_
          refine WpC.seq ?_
          refine WpC.region (objR1 E) rfl ?_
          refine wpO.val rfl (oper_load H58 (i := 0) rfl rfl (part_agg ag28 sz28 rfl)) rfl ?_
          refine wpO.val rfl (oper_load H58 (i := 2) rfl rfl (part_agg ag28 sz28 rfl)) rfl ?_
          refine wpO.less (Less.agg' (d := encTree z10) (CellsC.eq rfl (CellsC.eq rfl (CellsC.eq rfl (CellsC.eq rfl (CellsC.eq rfl .nil))))) ((Tree.eq _).trans rfl)) ?_
          obtain ⟨z59, hzz59, h⟩ := bind_some h
          refine wpO.retL (objR1 E).toObjOk rfl (oper_callF rfl rfl) (porticokeep_Trees_ok E n _ _ _ hzz59) rfl (.cons ((Tree.eq (Tree.mk z29.Tag z29.Key z29.Text z29.Attrs (setI (setI z29.Kids 0 (Tree.mk [122, 122] z53.Key z53.Text z53.Attrs z53.Kids)) 0 (Tree.mk z56.Tag [111, 116, 104, 101, 114] z56.Text z56.Attrs z56.Kids)))) ▸ Lend.agg (ds := [(.str z29.Tag), (.str z29.Key), (.str z29.Text), (.sl ((z29.Attrs).map encAttr) false), (.sl (((setI (setI z29.Kids 0 (Tree.mk [122, 122] z53.Key z53.Text z53.Attrs z53.Kids)) 0 (Tree.mk z56.Tag [111, 116, 104, 101, 114] z56.Text z56.Attrs z56.Kids))).map encTree) false)]) (.cons (.less (.refl _)) (.cons (.less (.refl _)) (.cons (.less (.refl _)) (.cons (.less (.refl _)) (.cons (Lend.row H58 (i := 1) rfl) .nil))))) rfl) (.cons (.less (.refl _)) .nil)) rfl ?_
          refine wpO.val rfl (oper_move rfl) rfl ?_
          obtain ⟨z61, hzz61, h⟩ := bind_some h
          refine wpO.groupV 4 84 (.d (.bool z61)) ?_ ?_
          ·
            rcases Bool.eq_false_or_eq_true (z59) with hB60 | hB60
            ·
              refine wpO.bool hB60 ?_
              refine wpO.no rfl rfl ?_
              refine wpO.no rfl rfl ?_
              refine wpO.no rfl rfl ?_
              refine wpO.val rfl (oper_pick (b := true) rfl rfl) rfl ?_
              replace hzz61 := if_t hB60 hzz61
              cases hzz61
              exact wpO.nil ⟨_, rfl, (WeakE.put (WeakE.push rfl (WeakE.push rfl (WeakE.push rfl (WeakE.put (.refl _) (Less.eq (by rw [hB60])))))) (.refl _))⟩
            ·
              refine wpO.bool hB60 ?_
              replace hzz61 := if_f hB60 hzz61
              refine wpO.val rfl (oper_load H58 (i := 0) rfl rfl (part_agg ag28 sz28 rfl)) rfl ?_
              refine wpO.val rfl (oper_load H58 (i := 2) rfl rfl (part_agg ag28 sz28 rfl)) rfl ?_
              refine wpO.less (Less.agg' (d := encTree z10) (CellsC.eq rfl (CellsC.eq rfl (CellsC.eq rfl (CellsC.eq rfl (CellsC.eq rfl .nil))))) ((Tree.eq _).trans rfl)) ?_
              obtain ⟨z62, hzz62, hzz61⟩ := bind_some hzz61
              refine wpO.retL (objR1 E).toObjOk rfl (oper_callF rfl rfl) (shape_Same_ok E n _ _ _ hzz62) rfl (.cons ((Tree.eq (Tree.mk z29.Tag z29.Key z29.Text z29.Attrs (setI (setI z29.Kids 0 (Tree.mk [122, 122] z53.Key z53.Text z53.Attrs z53.Kids)) 0 (Tree.mk z56.Tag [111, 116, 104, 101, 114] z56.Text z56.Attrs z56.Kids)))) ▸ Lend.agg (ds := [(.str z29.Tag), (.str z29.Key), (.str z29.Text), (.sl ((z29.Attrs).map encAttr) false), (.sl (((setI (setI z29.Kids 0 (Tree.mk [122, 122] z53.Key z53.Text z53.Attrs z53.Kids)) 0 (Tree.mk z56.Tag [111, 116, 104, 101, 114] z56.Text z56.Attrs z56.Kids))).map encTree) false)]) (.cons (.less (.refl _)) (.cons (.less (.refl _)) (.cons (.less (.refl _)) (.cons (.less (.refl _)) (.cons (Lend.row H58 (i := 1) rfl) .nil))))) rfl) (.cons (.less (.refl _)) .nil)) rfl ?_
              refine wpO.val rfl (oper_pick (b := false) rfl rfl) rfl ?_
              cases hzz61
              exact wpO.nil ⟨_, rfl, (WeakE.put (WeakE.push rfl (WeakE.push rfl (WeakE.push rfl (WeakE.put (.refl _) (Less.eq (by rw [hB60])))))) (.refl _))⟩
          ·
            refine wpO.nil ?_
            refine WpC.cond rfl (fun hb63 => ?_) (fun hb63 => ?_)
            ·
              replace h := if_t hb63 h
              refine WpC.seq ?_
              refine WpC.region (objR1 E) rfl ?_
              refine wpO.val rfl (oper_assign rfl) rfl ?_
              refine wpO.nil ?_
              have hr := Option.some.inj h
              subst hr
              exact WpC.ret ⟨_, rfl, rfl, end1 (ArgsC.eq .nil)⟩
            ·
              replace h := if_f hb63 h
              refine WpC.skip ?_
              exact ⟨(setI (setI z29.Kids 0 (Tree.mk [122, 122] z53.Key z53.Text z53.Attrs z53.Kids)) 0 (Tree.mk z56.Tag [111, 116, 104, 101, 114] z56.Text z56.Attrs z56.Kids)), _, _, S57, .refl _ _, .refl _, WeakE.nil, H58.sel [] (by decide) rfl, h⟩
        ·
          replace h := if_f hb52 h
          refine WpC.skip ?_
          exact ⟨z29.Kids, _, _, S42, .refl _ _, .refl _, WeakE.nil, H43.sel [] (by decide) rfl, h⟩
  ·
    obtain ⟨z64, hzz64, h⟩ := bind_some h
    rcases Bool.eq_false_or_eq_true ((!z64)) with hb65 | hb65
    ·
      replace h := if_t hb65 h
      refine WpC.drawP (objR1 E) hmix [[(5, none)], [(23, some 0)], [(24, some 1)], [(25, some 2)], [(5, none), (26, some 3)], [(27, some 4), (26, some 3)], [(8, none), (26, some 3)], [(28, some 5), (29, some 6), (26, some 3)], [(26, some 3), (30, some 7)], [(31, some 8)], [(5, none), (32, some 9)], [(33, some 10), (32, some 9)], [(9, none), (32, some 9)], [(34, some 11), (35, some 12), (32, some 9)], [(32, some 9), (36, some 13)], [(37, some 14)], [(5, none), (38, some 15)], [(39, some 16), (38, some 15)], [(10, none), (38, some 15)], [(40, some 17), (41, some 18), (38, some 15)], [(38, some 15), (42, some 19)], [(43, some 20)], [(7, none), (44, some 21)], [(5, none), (44, some 21)], [(45, some 22), (46, some 23), (44, some 21)], [(47, some 24), (44, some 21)], [(44, some 21), (48, some 25)], [(49, some 26)], [(5, none), (50, some 27)], [(6, none), (50, some 27)], [(51, some 28), (52, some 29), (50, some 27)], [(5, none), (50, some 27)], [(6, none), (50, some 27)], [(54, some 31), (55, some 32), (50, some 27)], [(53, some 30), (56, some 33), (50, some 27)], [(50, some 27), (57, some 34)], [(58, some 35)], [(7, none), (59, some 36)], [(5, none), (59, some 36)], [(60, some 37), (61, some 38), (59, some 36)], [(62, some 39), (59, some 36)], [(59, some 36), (63, some 40)]] [(5, none), (7, none), (64, some 41)] (by kernel_rfl) [] (by decide) [some (.d (encTree z10)), some (.d (.bool z64)), some (.d (.bool (!z64))), some (.d (.bool true)), some (.tup []), some (.tup []), some (.tup []), some (.tup []), some (.d (.bool true)), some (.d (.bool true)), some (.tup []), some (.tup []), some (.tup []), some (.tup []), some (.d (.bool true)), some (.d (.bool true)), some (.tup []), some (.tup []), some (.tup []), some (.tup []), some (.d (.bool true)), some (.d (.bool true)), some (.tup []), some (.tup []), some (.tup []), some (.tup []), some (.d (.bool true)), some (.d (.bool true)), some (.tup []), some (.tup []), some (.tup []), some (.tup []), some (.tup []), some (.tup []), some (.tup []), some (.d (.bool true)), some (.d (.bool true)), some (.tup []), some (.tup []), some (.tup []), some (.tup []), some (.d (.bool true))] ?_
      refine ⟨[0, 1, 2, 3, 4, 5, 6, 7, 8, 9, 10, 11, 12, 13, 14, 15, 16, 17, 18, 19, 20, 21, 22, 23, 24, 25, 26, 27, 28, 29, 30, 31, 32, 33, 34, 35, 36, 37, 38, 39, 40, 41], by kernel_rfl, ?_, _, rfl, ?_⟩
      ·
        refine .cons rfl rfl rfl (.step ?_) ?_
        ·
          refine wpO.val rfl (oper_load H40 (i := 3) rfl rfl (part_agg ag28 sz28 rfl)) rfl ?_
          refine wpO.less (Less.agg' (d := encTree z10) (CellsC.eq rfl (CellsC.eq rfl (CellsC.eq rfl (CellsC.eq rfl (CellsC.eq rfl .nil))))) ((Tree.eq _).trans rfl)) ?_
          exact wpO.nil ⟨_, _, rfl, fun _ ht => by cases ht; exact ⟨rfl, .refl _⟩⟩
        refine .cons rfl rfl rfl (.step ?_) ?_
        ·
          refine wpO.ret rfl (oper_callF rfl rfl) (shape_Right_ok E _ _ _ hzz64 _ _ (ArgsC.eq .nil)) rfl ?_
          exact wpO.nil ⟨_, _, rfl, fun _ ht => by cases ht; exact ⟨rfl, .refl _⟩⟩
        refine .cons rfl rfl rfl (.step ?_) ?_
        ·
          refine wpO.val rfl (oper_not rfl) rfl ?_
          exact wpO.nil ⟨_, _, rfl, fun _ ht => by cases ht; exact ⟨rfl, .refl _⟩⟩
        refine .cons rfl rfl rfl (.step ?_) ?_
        ·
          refine wpO.val rfl (oper_move rfl) rfl ?_
          exact wpO.nil ⟨_, _, rfl, fun _ ht => by cases ht; exact ⟨rfl, (.eq (by rw [hb65]))⟩⟩
        refine .cons rfl rfl rfl (.no rfl (.refl _)) ?_
        refine .cons rfl rfl rfl (.no rfl (.refl _)) ?_
        refine .cons rfl rfl rfl (.no rfl (.refl _)) ?_
        refine .cons rfl rfl rfl (.no rfl (.refl _)) ?_
        refine .cons rfl rfl rfl (.step ?_) ?_
        ·
          refine wpO.val rfl (oper_pick (b := true) rfl rfl) rfl ?_
          exact wpO.nil ⟨_, _, rfl, fun _ ht => by cases ht; exact ⟨rfl, .refl _⟩⟩
        refine .cons rfl rfl rfl (.step ?_) ?_
        ·
          refine wpO.val rfl (oper_move rfl) rfl ?_
          exact wpO.nil ⟨_, _, rfl, fun _ ht => by cases ht; exact ⟨rfl, .refl _⟩⟩
        refine .cons rfl rfl rfl (.no rfl (.refl _)) ?_
        refine .cons rfl rfl rfl (.no rfl (.refl _)) ?_
        refine .cons rfl rfl rfl (.no rfl (.refl _)) ?_
        refine .cons rfl rfl rfl (.no rfl (.refl _)) ?_
        refine .cons rfl rfl rfl (.step ?_) ?_
        ·
          refine wpO.val rfl (oper_pick (b := true) rfl rfl) rfl ?_
          exact wpO.nil ⟨_, _, rfl, fun _ ht => by cases ht; exact ⟨rfl, .refl _⟩⟩
        refine .cons rfl rfl rfl (.step ?_) ?_
        ·
          refine wpO.val rfl (oper_move rfl) rfl ?_
          exact wpO.nil ⟨_, _, rfl, fun _ ht => by cases ht; exact ⟨rfl, .refl _⟩⟩
        refine .cons rfl rfl rfl (.no rfl (.refl _)) ?_
        refine .cons rfl rfl rfl (.no rfl (.refl _)) ?_
        refine .cons rfl rfl rfl (.no rfl (.refl _)) ?_
        refine .cons rfl rfl rfl (.no rfl (.refl _)) ?_
        refine .cons rfl rfl rfl (.step ?_) ?_
        ·
          refine wpO.val rfl (oper_pick (b := true) rfl rfl) rfl ?_
          exact wpO.nil ⟨_, _, rfl, fun _ ht => by cases ht; exact ⟨rfl, .refl _⟩⟩
        refine .cons rfl rfl rfl (.step ?_) ?_
        ·
          refine wpO.val rfl (oper_move rfl) rfl ?_
          exact wpO.nil ⟨_, _, rfl, fun _ ht => by cases ht; exact ⟨rfl, .refl _⟩⟩
        refine .cons rfl rfl rfl (.no rfl (.refl _)) ?_
        refine .cons rfl rfl rfl (.no rfl (.refl _)) ?_
        refine .cons rfl rfl rfl (.no rfl (.refl _)) ?_
        refine .cons rfl rfl rfl (.no rfl (.refl _)) ?_
        refine .cons rfl rfl rfl (.step ?_) ?_
        ·
          refine wpO.val rfl (oper_pick (b := true) rfl rfl) rfl ?_
          exact wpO.nil ⟨_, _, rfl, fun _ ht => by cases ht; exact ⟨rfl, .refl _⟩⟩
        refine .cons rfl rfl rfl (.step ?_) ?_
        ·
          refine wpO.val rfl (oper_move rfl) rfl ?_
          exact wpO.nil ⟨_, _, rfl, fun _ ht => by cases ht; exact ⟨rfl, .refl _⟩⟩
        refine .cons rfl rfl rfl (.no rfl (.refl _)) ?_
        refine .cons rfl rfl rfl (.no rfl (.refl _)) ?_
        refine .cons rfl rfl rfl (.no rfl (.refl _)) ?_
        refine .cons rfl rfl rfl (.no rfl (.refl _)) ?_
        refine .cons rfl rfl rfl (.no rfl (.refl _)) ?_
        refine .cons rfl rfl rfl (.no rfl (.refl _)) ?_
        refine .cons rfl rfl rfl (.no rfl (.refl _)) ?_
        refine .cons rfl rfl rfl (.step ?_) ?_
        ·
          refine wpO.val rfl (oper_pick (b := true) rfl rfl) rfl ?_
          exact wpO.nil ⟨_, _, rfl, fun _ ht => by cases ht; exact ⟨rfl, .refl _⟩⟩
        refine .cons rfl rfl rfl (.step ?_) ?_
        ·
          refine wpO.val rfl (oper_move rfl) rfl ?_
          exact wpO.nil ⟨_, _, rfl, fun _ ht => by cases ht; exact ⟨rfl, .refl _⟩⟩
        refine .cons rfl rfl rfl (.no rfl (.refl _)) ?_
        refine .cons rfl rfl rfl (.no rfl (.refl _)) ?_
        refine .cons rfl rfl rfl (.no rfl (.refl _)) ?_
        refine .cons rfl rfl rfl (.no rfl (.refl _)) ?_
        refine .cons rfl rfl rfl (.step ?_) ?_
        ·
          refine wpO.val rfl (oper_pick (b := true) rfl rfl) rfl ?_
          exact wpO.nil ⟨_, _, rfl, fun _ ht => by cases ht; exact ⟨rfl, .refl _⟩⟩
        exact .nil
      exact ⟨true, _, _, S39, .refl _ _, .refl _, (WeakE.cons rfl (.refl _) (WeakE.cons rfl (.refl _) (WeakE.cons rfl (.refl _) WeakE.nil))), H40.sel [0, 1, 3] (by decide) rfl, h⟩
    ·
      replace h := if_f hb65 h
      obtain ⟨z66, hzz66, h⟩ := bind_some h
      rcases Bool.eq_false_or_eq_true ((z66 != z41.1)) with hb67 | hb67
      ·
        replace h := if_t hb67 h
        refine WpC.drawP (objR1 E) hmix [[(5, none)], [(23, some 0)], [(24, some 1)], [(25, some 2)], [(5, none), (26, some 3)], [(27, some 4), (26, some 3)], [(8, none), (26, some 3)], [(28, some 5), (29, some 6), (26, some 3)], [(26, some 3), (30, some 7)], [(31, some 8)], [(5, none), (32, some 9)], [(33, some 10), (32, some 9)], [(9, none), (32, some 9)], [(34, some 11), (35, some 12), (32, some 9)], [(32, some 9), (36, some 13)], [(37, some 14)], [(5, none), (38, some 15)], [(39, some 16), (38, some 15)], [(10, none), (38, some 15)], [(40, some 17), (41, some 18), (38, some 15)], [(38, some 15), (42, some 19)], [(43, some 20)], [(7, none), (44, some 21)], [(5, none), (44, some 21)], [(45, some 22), (46, some 23), (44, some 21)], [(47, some 24), (44, some 21)], [(44, some 21), (48, some 25)], [(49, some 26)], [(5, none), (50, some 27)], [(6, none), (50, some 27)], [(51, some 28), (52, some 29), (50, some 27)], [(5, none), (50, some 27)], [(6, none), (50, some 27)], [(54, some 31), (55, some 32), (50, some 27)], [(53, some 30), (56, some 33), (50, some 27)], [(50, some 27), (57, some 34)], [(58, some 35)], [(7, none), (59, some 36)], [(5, none), (59, some 36)], [(60, some 37), (61, some 38), (59, some 36)], [(62, some 39), (59, some 36)], [(59, some 36), (63, some 40)]] [(5, none), (7, none), (64, some 41)] (by kernel_rfl) [] (by decide) [some (.d (encTree z10)), some (.d (.bool z64)), some (.d (.bool (!z64))), some (.d (.bool false)), some (.d (encTree z10)), some (.d (.int .i64 z66)), some (.d (.int .i64 z41.1)), some (.d (.bool (z66 != z41.1))), some (.d (.bool (z66 != z41.1))), some (.d (.bool true)), some (.tup []), some (.tup []), some (.tup []), some (.tup []), some (.d (.bool true)), some (.d (.bool true)), some (.tup []), some (.tup []), some (.tup []), some (.tup []), some (.d (.bool true)), some (.d (.bool true)), some (.tup []), some (.tup []), some (.tup []), some (.tup []), some (.d (.bool true)), some (.d (.bool true)), some (.tup []), some (.tup []), some (.tup []), some (.tup []), some (.tup []), some (.tup []), some (.tup []), some (.d (.bool true)), some (.d (.bool true)), some (.tup []), some (.tup []), some (.tup []), some (.tup []), some (.d (.bool true))] ?_
        refine ⟨[0, 1, 2, 3, 4, 5, 6, 7, 8, 9, 10, 11, 12, 13, 14, 15, 16, 17, 18, 19, 20, 21, 22, 23, 24, 25, 26, 27, 28, 29, 30, 31, 32, 33, 34, 35, 36, 37, 38, 39, 40, 41], by kernel_rfl, ?_, _, rfl, ?_⟩
        ·
          refine .cons rfl rfl rfl (.step ?_) ?_
          ·
            refine wpO.val rfl (oper_load H40 (i := 3) rfl rfl (part_agg ag28 sz28 rfl)) rfl ?_
            refine wpO.less (Less.agg' (d := encTree z10) (CellsC.eq rfl (CellsC.eq rfl (CellsC.eq rfl (CellsC.eq rfl (CellsC.eq rfl .nil))))) ((Tree.eq _).trans rfl)) ?_
            exact wpO.nil ⟨_, _, rfl, fun _ ht => by cases ht; exact ⟨rfl, .refl _⟩⟩
          refine .cons rfl rfl rfl (.step ?_) ?_
          ·
            refine wpO.ret rfl (oper_callF rfl rfl) (shape_Right_ok E _ _ _ hzz64 _ _ (ArgsC.eq .nil)) rfl ?_
            exact wpO.nil ⟨_, _, rfl, fun _ ht => by cases ht; exact ⟨rfl, .refl _⟩⟩
          refine .cons rfl rfl rfl (.step ?_) ?_
          ·
            refine wpO.val rfl (oper_not rfl) rfl ?_
            exact wpO.nil ⟨_, _, rfl, fun _ ht => by cases ht; exact ⟨rfl, .refl _⟩⟩
          refine .cons rfl rfl rfl (.step ?_) ?_
          ·
            refine wpO.val rfl (oper_move rfl) rfl ?_
            exact wpO.nil ⟨_, _, rfl, fun _ ht => by cases ht; exact ⟨rfl, (.eq (by rw [hb65]))⟩⟩
          refine .cons rfl rfl rfl (.step ?_) ?_
          ·
            refine wpO.val rfl (oper_load H40 (i := 3) rfl rfl (part_agg ag28 sz28 rfl)) rfl ?_
            refine wpO.less (Less.agg' (d := encTree z10) (CellsC.eq rfl (CellsC.eq rfl (CellsC.eq rfl (CellsC.eq rfl (CellsC.eq rfl .nil))))) ((Tree.eq _).trans rfl)) ?_
            exact wpO.nil ⟨_, _, rfl, fun _ ht => by cases ht; exact ⟨rfl, .refl _⟩⟩
          refine .cons rfl rfl rfl (.step ?_) ?_
          ·
            refine wpO.ret rfl (oper_callF rfl rfl) (shape_Count_ok E _ _ _ hzz66 _ _ (ArgsC.eq .nil)) rfl ?_
            exact wpO.nil ⟨_, _, rfl, fun _ ht => by cases ht; exact ⟨rfl, .refl _⟩⟩
          refine .cons rfl rfl rfl (.step ?_) ?_
          ·
            refine wpO.val rfl (oper_move rfl) rfl ?_
            exact wpO.nil ⟨_, _, rfl, fun _ ht => by cases ht; exact ⟨rfl, .refl _⟩⟩
          refine .cons rfl rfl rfl (.step ?_) ?_
          ·
            refine wpO.val rfl (oper_bin rfl rfl binD_neq) rfl ?_
            exact wpO.nil ⟨_, _, rfl, fun _ ht => by cases ht; exact ⟨rfl, .refl _⟩⟩
          refine .cons rfl rfl rfl (.step ?_) ?_
          ·
            refine wpO.val rfl (oper_pick (b := false) rfl rfl) rfl ?_
            exact wpO.nil ⟨_, _, rfl, fun _ ht => by cases ht; exact ⟨rfl, .refl _⟩⟩
          refine .cons rfl rfl rfl (.step ?_) ?_
          ·
            refine wpO.val rfl (oper_move rfl) rfl ?_
            exact wpO.nil ⟨_, _, rfl, fun _ ht => by cases ht; exact ⟨rfl, (.eq (by rw [hb67]))⟩⟩
          refine .cons rfl rfl rfl (.no rfl (.refl _)) ?_
          refine .cons rfl rfl rfl (.no rfl (.refl _)) ?_
          refine .cons rfl rfl rfl (.no rfl (.refl _)) ?_
          refine .cons rfl rfl rfl (.no rfl (.refl _)) ?_
          refine .cons rfl rfl rfl (.step ?_) ?_
          ·
            refine wpO.val rfl (oper_pick (b := true) rfl rfl) rfl ?_
            exact wpO.nil ⟨_, _, rfl, fun _ ht => by cases ht; exact ⟨rfl, .refl _⟩⟩
          refine .cons rfl rfl rfl (.step ?_) ?_
          ·
            refine wpO.val rfl (oper_move rfl) rfl ?_
            exact wpO.nil ⟨_, _, rfl, fun _ ht => by cases ht; exact ⟨rfl, .refl _⟩⟩
          refine .cons rfl rfl rfl (.no rfl (.refl _)) ?_
          refine .cons rfl rfl rfl (.no rfl (.refl _)) ?_
          refine .cons rfl rfl rfl (.no rfl (.refl _)) ?_
          refine .cons rfl rfl rfl (.no rfl (.refl _)) ?_
          refine .cons rfl rfl rfl (.step ?_) ?_
          ·
            refine wpO.val rfl (oper_pick (b := true) rfl rfl) rfl ?_
            exact wpO.nil ⟨_, _, rfl, fun _ ht => by cases ht; exact ⟨rfl, .refl _⟩⟩
          refine .cons rfl rfl rfl (.step ?_) ?_
          ·
            refine wpO.val rfl (oper_move rfl) rfl ?_
            exact wpO.nil ⟨_, _, rfl, fun _ ht => by cases ht; exact ⟨rfl, .refl _⟩⟩
          refine .cons rfl rfl rfl (.no rfl (.refl _)) ?_
          refine .cons rfl rfl rfl (.no rfl (.refl _)) ?_
          refine .cons rfl rfl rfl (.no rfl (.refl _)) ?_
          refine .cons rfl rfl rfl (.no rfl (.refl _)) ?_
          refine .cons rfl rfl rfl (.step ?_) ?_
          ·
            refine wpO.val rfl (oper_pick (b := true) rfl rfl) rfl ?_
            exact wpO.nil ⟨_, _, rfl, fun _ ht => by cases ht; exact ⟨rfl, .refl _⟩⟩
          refine .cons rfl rfl rfl (.step ?_) ?_
          ·
            refine wpO.val rfl (oper_move rfl) rfl ?_
            exact wpO.nil ⟨_, _, rfl, fun _ ht => by cases ht; exact ⟨rfl, .refl _⟩⟩
          refine .cons rfl rfl rfl (.no rfl (.refl _)) ?_
          refine .cons rfl rfl rfl (.no rfl (.refl _)) ?_
          refine .cons rfl rfl rfl (.no rfl (.refl _)) ?_
          refine .cons rfl rfl rfl (.no rfl (.refl _)) ?_
          refine .cons rfl rfl rfl (.no rfl (.refl _)) ?_
          refine .cons rfl rfl rfl (.no rfl (.refl _)) ?_
          refine .cons rfl rfl rfl (.no rfl (.refl _)) ?_
          refine .cons rfl rfl rfl (.step ?_) ?_
          ·
            refine wpO.val rfl (oper_pick (b := true) rfl rfl) rfl ?_
            exact wpO.nil ⟨_, _, rfl, fun _ ht => by cases ht; exact ⟨rfl, .refl _⟩⟩
          refine .cons rfl rfl rfl (.step ?_) ?_
          ·
            refine wpO.val rfl (oper_move rfl) rfl ?_
            exact wpO.nil ⟨_, _, rfl, fun _ ht => by cases ht; exact ⟨rfl, .refl _⟩⟩
          refine .cons rfl rfl rfl (.no rfl (.refl _)) ?_
          refine .cons rfl rfl rfl (.no rfl (.refl _)) ?_
          refine .cons rfl rfl rfl (.no rfl (.refl _)) ?_
          refine .cons rfl rfl rfl (.no rfl (.refl _)) ?_
          refine .cons rfl rfl rfl (.step ?_) ?_
          ·
            refine wpO.val rfl (oper_pick (b := true) rfl rfl) rfl ?_
            exact wpO.nil ⟨_, _, rfl, fun _ ht => by cases ht; exact ⟨rfl, .refl _⟩⟩
          exact .nil
        exact ⟨true, _, _, S39, .refl _ _, .refl _, (WeakE.cons rfl (.refl _) (WeakE.cons rfl (.refl _) (WeakE.cons rfl (.refl _) WeakE.nil))), H40.sel [0, 1, 3] (by decide) rfl, h⟩
      ·
        replace h := if_f hb67 h
        obtain ⟨z68, hzz68, h⟩ := bind_some h
        rcases Bool.eq_false_or_eq_true ((z68 != z41.2.1)) with hb69 | hb69
        ·
          replace h := if_t hb69 h
          refine WpC.drawP (objR1 E) hmix [[(5, none)], [(23, some 0)], [(24, some 1)], [(25, some 2)], [(5, none), (26, some 3)], [(27, some 4), (26, some 3)], [(8, none), (26, some 3)], [(28, some 5), (29, some 6), (26, some 3)], [(26, some 3), (30, some 7)], [(31, some 8)], [(5, none), (32, some 9)], [(33, some 10), (32, some 9)], [(9, none), (32, some 9)], [(34, some 11), (35, some 12), (32, some 9)], [(32, some 9), (36, some 13)], [(37, some 14)], [(5, none), (38, some 15)], [(39, some 16), (38, some 15)], [(10, none), (38, some 15)], [(40, some 17), (41, some 18), (38, some 15)], [(38, some 15), (42, some 19)], [(43, some 20)], [(7, none), (44, some 21)], [(5, none), (44, some 21)], [(45, some 22), (46, some 23), (44, some 21)], [(47, some 24), (44, some 21)], [(44, some 21), (48, some 25)], [(49, some 26)], [(5, none), (50, some 27)], [(6, none), (50, some 27)], [(51, some 28), (52, some 29), (50, some 27)], [(5, none), (50, some 27)], [(6, none), (50, some 27)], [(54, some 31), (55, some 32), (50, some 27)], [(53, some 30), (56, some 33), (50, some 27)], [(50, some 27), (57, some 34)], [(58, some 35)], [(7, none), (59, some 36)], [(5, none), (59, some 36)], [(60, some 37), (61, some 38), (59, some 36)], [(62, some 39), (59, some 36)], [(59, some 36), (63, some 40)]] [(5, none), (7, none), (64, some 41)] (by kernel_rfl) [] (by decide) [some (.d (encTree z10)), some (.d (.bool z64)), some (.d (.bool (!z64))), some (.d (.bool false)), some (.d (encTree z10)), some (.d (.int .i64 z66)), some (.d (.int .i64 z41.1)), some (.d (.bool (z66 != z41.1))), some (.d (.bool (z66 != z41.1))), some (.d (.bool false)), some (.d (encTree z10)), some (.d (.int .i64 z68)), some (.d (.int .i64 z41.2.1)), some (.d (.bool (z68 != z41.2.1))), some (.d (.bool (z68 != z41.2.1))), some (.d (.bool true)), some (.tup []), some (.tup []), some (.tup []), some (.tup []), some (.d (.bool true)), some (.d (.bool true)), some (.tup []), some (.tup []), some (.tup []), some (.tup []), some (.d (.bool true)), some (.d (.bool true)), some (.tup []), some (.tup []), some (.tup []), some (.tup []), some (.tup []), some (.tup []), some (.tup []), some (.d (.bool true)), some (.d (.bool true)), some (.tup []), some (.tup []), some (.tup []), some (.tup []), some (.d (.bool true))] ?_
          refine ⟨[0, 1, 2, 3, 4, 5, 6, 7, 8, 9, 10, 11, 12, 13, 14, 15, 16, 17, 18, 19, 20, 21, 22, 23, 24, 25, 26, 27, 28, 29, 30, 31, 32, 33, 34, 35, 36, 37, 38, 39, 40, 41], by kernel_rfl, ?_, _, rfl, ?_⟩
          ·
            refine .cons rfl rfl rfl (.step ?_) ?_
            ·
              refine wpO.val rfl (oper_load H40 (i := 3) rfl rfl (part_agg ag28 sz28 rfl)) rfl ?_
              refine wpO.less (Less.agg' (d := encTree z10) (CellsC.eq rfl (CellsC.eq rfl (CellsC.eq rfl (CellsC.eq rfl (CellsC.eq rfl .nil))))) ((Tree.eq _).trans rfl)) ?_
              exact wpO.nil ⟨_, _, rfl, fun _ ht => by cases ht; exact ⟨rfl, .refl _⟩⟩
            refine .cons rfl rfl rfl (.step ?_) ?_
            ·
              refine wpO.ret rfl (oper_callF rfl rfl) (shape_Right_ok E _ _ _ hzz64 _ _ (ArgsC.eq .nil)) rfl ?_
              exact wpO.nil ⟨_, _, rfl, fun _ ht => by cases ht; exact ⟨rfl, .refl _⟩⟩
            refine .cons rfl rfl rfl (.step ?_) ?_
            ·
              refine wpO.val rfl (oper_not rfl) rfl ?_
              exact wpO.nil ⟨_, _, rfl, fun _ ht => by cases ht; exact ⟨rfl, .refl _⟩⟩
            refine .cons rfl rfl rfl (.step ?_) ?_
            ·
              refine wpO.val rfl (oper_move rfl) rfl ?_
              exact wpO.nil ⟨_, _, rfl, fun _ ht => by cases ht; exact ⟨rfl, (.eq (by rw [hb65]))⟩⟩
            refine .cons rfl rfl rfl (.step ?_) ?_
            ·
              refine wpO.val rfl (oper_load H40 (i := 3) rfl rfl (part_agg ag28 sz28 rfl)) rfl ?_
              refine wpO.less (Less.agg' (d := encTree z10) (CellsC.eq rfl (CellsC.eq rfl (CellsC.eq rfl (CellsC.eq rfl (CellsC.eq rfl .nil))))) ((Tree.eq _).trans rfl)) ?_
              exact wpO.nil ⟨_, _, rfl, fun _ ht => by cases ht; exact ⟨rfl, .refl _⟩⟩
            refine .cons rfl rfl rfl (.step ?_) ?_
            ·
              refine wpO.ret rfl (oper_callF rfl rfl) (shape_Count_ok E _ _ _ hzz66 _ _ (ArgsC.eq .nil)) rfl ?_
              exact wpO.nil ⟨_, _, rfl, fun _ ht => by cases ht; exact ⟨rfl, .refl _⟩⟩
            refine .cons rfl rfl rfl (.step ?_) ?_
            ·
              refine wpO.val rfl (oper_move rfl) rfl ?_
              exact wpO.nil ⟨_, _, rfl, fun _ ht => by cases ht; exact ⟨rfl, .refl _⟩⟩
            refine .cons rfl rfl rfl (.step ?_) ?_
            ·
              refine wpO.val rfl (oper_bin rfl rfl binD_neq) rfl ?_
              exact wpO.nil ⟨_, _, rfl, fun _ ht => by cases ht; exact ⟨rfl, .refl _⟩⟩
            refine .cons rfl rfl rfl (.step ?_) ?_
            ·
              refine wpO.val rfl (oper_pick (b := false) rfl rfl) rfl ?_
              exact wpO.nil ⟨_, _, rfl, fun _ ht => by cases ht; exact ⟨rfl, .refl _⟩⟩
            refine .cons rfl rfl rfl (.step ?_) ?_
            ·
              refine wpO.val rfl (oper_move rfl) rfl ?_
              exact wpO.nil ⟨_, _, rfl, fun _ ht => by cases ht; exact ⟨rfl, (.eq (by rw [hb67]))⟩⟩
            refine .cons rfl rfl rfl (.step ?_) ?_
            ·
              refine wpO.val rfl (oper_load H40 (i := 3) rfl rfl (part_agg ag28 sz28 rfl)) rfl ?_
              refine wpO.less (Less.agg' (d := encTree z10) (CellsC.eq rfl (CellsC.eq rfl (CellsC.eq rfl (CellsC.eq rfl (CellsC.eq rfl .nil))))) ((Tree.eq _).trans rfl)) ?_
              exact wpO.nil ⟨_, _, rfl, fun _ ht => by cases ht; exact ⟨rfl, .refl _⟩⟩
            refine .cons rfl rfl rfl (.step ?_) ?_
            ·
              refine wpO.ret rfl (oper_callF rfl rfl) (shape_Deep_ok E _ _ _ hzz68 _ _ (ArgsC.eq .nil)) rfl ?_
              exact wpO.nil ⟨_, _, rfl, fun _ ht => by cases ht; exact ⟨rfl, .refl _⟩⟩
            refine .cons rfl rfl rfl (.step ?_) ?_
            ·
              refine wpO.val rfl (oper_move rfl) rfl ?_
              exact wpO.nil ⟨_, _, rfl, fun _ ht => by cases ht; exact ⟨rfl, .refl _⟩⟩
            refine .cons rfl rfl rfl (.step ?_) ?_
            ·
              refine wpO.val rfl (oper_bin rfl rfl binD_neq) rfl ?_
              exact wpO.nil ⟨_, _, rfl, fun _ ht => by cases ht; exact ⟨rfl, .refl _⟩⟩
            refine .cons rfl rfl rfl (.step ?_) ?_
            ·
              refine wpO.val rfl (oper_pick (b := false) rfl rfl) rfl ?_
              exact wpO.nil ⟨_, _, rfl, fun _ ht => by cases ht; exact ⟨rfl, .refl _⟩⟩
            refine .cons rfl rfl rfl (.step ?_) ?_
            ·
              refine wpO.val rfl (oper_move rfl) rfl ?_
              exact wpO.nil ⟨_, _, rfl, fun _ ht => by cases ht; exact ⟨rfl, (.eq (by rw [hb69]))⟩⟩
            refine .cons rfl rfl rfl (.no rfl (.refl _)) ?_
            refine .cons rfl rfl rfl (.no rfl (.refl _)) ?_
            refine .cons rfl rfl rfl (.no rfl (.refl _)) ?_
            refine .cons rfl rfl rfl (.no rfl (.refl _)) ?_
            refine .cons rfl rfl rfl (.step ?_) ?_
            ·
              refine wpO.val rfl (oper_pick (b := true) rfl rfl) rfl ?_
              exact wpO.nil ⟨_, _, rfl, fun _ ht => by cases ht; exact ⟨rfl, .refl _⟩⟩
            refine .cons rfl rfl rfl (.step ?_) ?_
            ·
              refine wpO.val rfl (oper_move rfl) rfl ?_
              exact wpO.nil ⟨_, _, rfl, fun _ ht => by cases ht; exact ⟨rfl, .refl _⟩⟩
            refine .cons rfl rfl rfl (.no rfl (.refl _)) ?_
            refine .cons rfl rfl rfl (.no rfl (.refl _)) ?_
            refine .cons rfl rfl rfl (.no rfl (.refl _)) ?_
            refine .cons rfl rfl rfl (.no rfl (.refl _)) ?_
            refine .cons rfl rfl rfl (.step ?_) ?_
            ·
              refine wpO.val rfl (oper_pick (b := true) rfl rfl) rfl ?_
              exact wpO.nil ⟨_, _, rfl, fun _ ht => by cases ht; exact ⟨rfl, .refl _⟩⟩
            refine .cons rfl rfl rfl (.step ?_) ?_
            ·
              refine wpO.val rfl (oper_move rfl) rfl ?_
              exact wpO.nil ⟨_, _, rfl, fun _ ht => by cases ht; exact ⟨rfl, .refl _⟩⟩
            refine .cons rfl rfl rfl (.no rfl (.refl _)) ?_
            refine .cons rfl rfl rfl (.no rfl (.refl _)) ?_
            refine .cons rfl rfl rfl (.no rfl (.refl _)) ?_
            refine .cons rfl rfl rfl (.no rfl (.refl _)) ?_
            refine .cons rfl rfl rfl (.no rfl (.refl _)) ?_
            refine .cons rfl rfl rfl (.no rfl (.refl _)) ?_
            refine .cons rfl rfl rfl (.no rfl (.refl _)) ?_
            refine .cons rfl rfl rfl (.step ?_) ?_
            ·
              refine wpO.val rfl (oper_pick (b := true) rfl rfl) rfl ?_
              exact wpO.nil ⟨_, _, rfl, fun _ ht => by cases ht; exact ⟨rfl, .refl _⟩⟩
            refine .cons rfl rfl rfl (.step ?_) ?_
            ·
              refine wpO.val rfl (oper_move rfl) rfl ?_
              exact wpO.nil ⟨_, _, rfl, fun _ ht => by cases ht; exact ⟨rfl, .refl _⟩⟩
            refine .cons rfl rfl rfl (.no rfl (.refl _)) ?_
            refine .cons rfl rfl rfl (.no rfl (.refl _)) ?_
            refine .cons rfl rfl rfl (.no rfl (.refl _)) ?_
            refine .cons rfl rfl rfl (.no rfl (.refl _)) ?_
            refine .cons rfl rfl rfl (.step ?_) ?_
            ·
              refine wpO.val rfl (oper_pick (b := true) rfl rfl) rfl ?_
              exact wpO.nil ⟨_, _, rfl, fun _ ht => by cases ht; exact ⟨rfl, .refl _⟩⟩
            exact .nil
          exact ⟨true, _, _, S39, .refl _ _, .refl _, (WeakE.cons rfl (.refl _) (WeakE.cons rfl (.refl _) (WeakE.cons rfl (.refl _) WeakE.nil))), H40.sel [0, 1, 3] (by decide) rfl, h⟩
        ·
          replace h := if_f hb69 h
          obtain ⟨z70, hzz70, h⟩ := bind_some h
          rcases Bool.eq_false_or_eq_true ((z70 != z41.2.2)) with hb71 | hb71
          ·
            replace h := if_t hb71 h
            refine WpC.drawP (objR1 E) hmix [[(5, none)], [(23, some 0)], [(24, some 1)], [(25, some 2)], [(5, none), (26, some 3)], [(27, some 4), (26, some 3)], [(8, none), (26, some 3)], [(28, some 5), (29, some 6), (26, some 3)], [(26, some 3), (30, some 7)], [(31, some 8)], [(5, none), (32, some 9)], [(33, some 10), (32, some 9)], [(9, none), (32, some 9)], [(34, some 11), (35, some 12), (32, some 9)], [(32, some 9), (36, some 13)], [(37, some 14)], [(5, none), (38, some 15)], [(39, some 16), (38, some 15)], [(10, none), (38, some 15)], [(40, some 17), (41, some 18), (38, some 15)], [(38, some 15), (42, some 19)], [(43, some 20)], [(7, none), (44, some 21)], [(5, none), (44, some 21)], [(45, some 22), (46, some 23), (44, some 21)], [(47, some 24), (44, some 21)], [(44, some 21), (48, some 25)], [(49, some 26)], [(5, none), (50, some 27)], [(6, none), (50, some 27)], [(51, some 28), (52, some 29), (50, some 27)], [(5, none), (50, some 27)], [(6, none), (50, some 27)], [(54, some 31), (55, some 32), (50, some 27)], [(53, some 30), (56, some 33), (50, some 27)], [(50, some 27), (57, some 34)], [(58, some 35)], [(7, none), (59, some 36)], [(5, none), (59, some 36)], [(60, some 37), (61, some 38), (59, some 36)], [(62, some 39), (59, some 36)], [(59, some 36), (63, some 40)]] [(5, none), (7, none), (64, some 41)] (by kernel_rfl) [] (by decide) [some (.d (encTree z10)), some (.d (.bool z64)), some (.d (.bool (!z64))), some (.d (.bool false)), some (.d (encTree z10)), some (.d (.int .i64 z66)), some (.d (.int .i64 z41.1)), some (.d (.bool (z66 != z41.1))), some (.d (.bool (z66 != z41.1))), some (.d (.bool false)), some (.d (encTree z10)), some (.d (.int .i64 z68)), some (.d (.int .i64 z41.2.1)), some (.d (.bool (z68 != z41.2.1))), some (.d (.bool (z68 != z41.2.1))), some (.d (.bool false)), some (.d (encTree z10)), some (.d (.int .i64 z70)), some (.d (.int .i64 z41.2.2)), some (.d (.bool (z70 != z41.2.2))), some (.d (.bool (z70 != z41.2.2))), some (.d (.bool true)), some (.tup []), some (.tup []), some (.tup []), some (.tup []), some (.d (.bool true)), some (.d (.bool true)), some (.tup []), some (.tup []), some (.tup []), some (.tup []), some (.tup []), some (.tup []), some (.tup []), some (.d (.bool true)), some (.d (.bool true)), some (.tup []), some (.tup []), some (.tup []), some (.tup []), some (.d (.bool true))] ?_
            refine ⟨[0, 1, 2, 3, 4, 5, 6, 7, 8, 9, 10, 11, 12, 13, 14, 15, 16, 17, 18, 19, 20, 21, 22, 23, 24, 25, 26, 27, 28, 29, 30, 31, 32, 33, 34, 35, 36, 37, 38, 39, 40, 41], by kernel_rfl, ?_, _, rfl, ?_⟩
            ·
              refine .cons rfl rfl rfl (.step ?_) ?_
              ·
                refine wpO.val rfl (oper_load H40 (i := 3) rfl rfl (part_agg ag28 sz28 rfl)) rfl ?_
                refine wpO.less (Less.agg' (d := encTree z10) (CellsC.eq rfl (CellsC.eq rfl (CellsC.eq rfl (CellsC.eq rfl (CellsC.eq rfl .nil))))) ((Tree.eq _).trans rfl)) ?_
                exact wpO.nil ⟨_, _, rfl, fun _ ht => by cases ht; exact ⟨rfl, .refl _⟩⟩
              refine .cons rfl rfl rfl (.step ?_) ?_
              ·
                refine wpO.ret rfl (oper_callF rfl rfl) (shape_Right_ok E _ _ _ hzz64 _ _ (ArgsC.eq .nil)) rfl ?_
                exact wpO.nil ⟨_, _, rfl, fun _ ht => by cases ht; exact ⟨rfl, .refl _⟩⟩
              refine .cons rfl rfl rfl (.step ?_) ?_
              ·
                refine wpO.val rfl (oper_not rfl) rfl ?_
                exact wpO.nil ⟨_, _, rfl, fun _ ht => by cases ht; exact ⟨rfl, .refl _⟩⟩
              refine .cons rfl rfl rfl (.step ?_) ?_
              ·
                refine wpO.val rfl (oper_move rfl) rfl ?_
                exact wpO.nil ⟨_, _, rfl, fun _ ht => by cases ht; exact ⟨rfl, (.eq (by rw [hb65]))⟩⟩
              refine .cons rfl rfl rfl (.step ?_) ?_
              ·
                refine wpO.val rfl (oper_load H40 (i := 3) rfl rfl (part_agg ag28 sz28 rfl)) rfl ?_
                refine wpO.less (Less.agg' (d := encTree z10) (CellsC.eq rfl (CellsC.eq rfl (CellsC.eq rfl (CellsC.eq rfl (CellsC.eq rfl .nil))))) ((Tree.eq _).trans rfl)) ?_
                exact wpO.nil ⟨_, _, rfl, fun _ ht => by cases ht; exact ⟨rfl, .refl _⟩⟩
              refine .cons rfl rfl rfl (.step ?_) ?_
              ·
                refine wpO.ret rfl (oper_callF rfl rfl) (shape_Count_ok E _ _ _ hzz66 _ _ (ArgsC.eq .nil)) rfl ?_
                exact wpO.nil ⟨_, _, rfl, fun _ ht => by cases ht; exact ⟨rfl, .refl _⟩⟩
              refine .cons rfl rfl rfl (.step ?_) ?_
              ·
                refine wpO.val rfl (oper_move rfl) rfl ?_
                exact wpO.nil ⟨_, _, rfl, fun _ ht => by cases ht; exact ⟨rfl, .refl _⟩⟩
              refine .cons rfl rfl rfl (.step ?_) ?_
              ·
                refine wpO.val rfl (oper_bin rfl rfl binD_neq) rfl ?_
                exact wpO.nil ⟨_, _, rfl, fun _ ht => by cases ht; exact ⟨rfl, .refl _⟩⟩
              refine .cons rfl rfl rfl (.step ?_) ?_
              ·
                refine wpO.val rfl (oper_pick (b := false) rfl rfl) rfl ?_
                exact wpO.nil ⟨_, _, rfl, fun _ ht => by cases ht; exact ⟨rfl, .refl _⟩⟩
              refine .cons rfl rfl rfl (.step ?_) ?_
              ·
                refine wpO.val rfl (oper_move rfl) rfl ?_
                exact wpO.nil ⟨_, _, rfl, fun _ ht => by cases ht; exact ⟨rfl, (.eq (by rw [hb67]))⟩⟩
              refine .cons rfl rfl rfl (.step ?_) ?_
              ·
                refine wpO.val rfl (oper_load H40 (i := 3) rfl rfl (part_agg ag28 sz28 rfl)) rfl ?_
                refine wpO.less (Less.agg' (d := encTree z10) (CellsC.eq rfl (CellsC.eq rfl (CellsC.eq rfl (CellsC.eq rfl (CellsC.eq rfl .nil))))) ((Tree.eq _).trans rfl)) ?_
                exact wpO.nil ⟨_, _, rfl, fun _ ht => by cases ht; exact ⟨rfl, .refl _⟩⟩
              refine .cons rfl rfl rfl (.step ?_) ?_
              ·
                refine wpO.ret rfl (oper_callF rfl rfl) (shape_Deep_ok E _ _ _ hzz68 _ _ (ArgsC.eq .nil)) rfl ?_
                exact wpO.nil ⟨_, _, rfl, fun _ ht => by cases ht; exact ⟨rfl, .refl _⟩⟩
              refine .cons rfl rfl rfl (.step ?_) ?_
              ·
                refine wpO.val rfl (oper_move rfl) rfl ?_
                exact wpO.nil ⟨_, _, rfl, fun _ ht => by cases ht; exact ⟨rfl, .refl _⟩⟩
              refine .cons rfl rfl rfl (.step ?_) ?_
              ·
                refine wpO.val rfl (oper_bin rfl rfl binD_neq) rfl ?_
                exact wpO.nil ⟨_, _, rfl, fun _ ht => by cases ht; exact ⟨rfl, .refl _⟩⟩
              refine .cons rfl rfl rfl (.step ?_) ?_
              ·
                refine wpO.val rfl (oper_pick (b := false) rfl rfl) rfl ?_
                exact wpO.nil ⟨_, _, rfl, fun _ ht => by cases ht; exact ⟨rfl, .refl _⟩⟩
              refine .cons rfl rfl rfl (.step ?_) ?_
              ·
                refine wpO.val rfl (oper_move rfl) rfl ?_
                exact wpO.nil ⟨_, _, rfl, fun _ ht => by cases ht; exact ⟨rfl, (.eq (by rw [hb69]))⟩⟩
              refine .cons rfl rfl rfl (.step ?_) ?_
              ·
                refine wpO.val rfl (oper_load H40 (i := 3) rfl rfl (part_agg ag28 sz28 rfl)) rfl ?_
                refine wpO.less (Less.agg' (d := encTree z10) (CellsC.eq rfl (CellsC.eq rfl (CellsC.eq rfl (CellsC.eq rfl (CellsC.eq rfl .nil))))) ((Tree.eq _).trans rfl)) ?_
                exact wpO.nil ⟨_, _, rfl, fun _ ht => by cases ht; exact ⟨rfl, .refl _⟩⟩
              refine .cons rfl rfl rfl (.step ?_) ?_
              ·
                refine wpO.ret rfl (oper_callF rfl rfl) (shape_Slots_ok E _ _ _ hzz70 _ _ (ArgsC.eq .nil)) rfl ?_
                exact wpO.nil ⟨_, _, rfl, fun _ ht => by cases ht; exact ⟨rfl, .refl _⟩⟩
              refine .cons rfl rfl rfl (.step ?_) ?_
              ·
                refine wpO.val rfl (oper_move rfl) rfl ?_
                exact wpO.nil ⟨_, _, rfl, fun _ ht => by cases ht; exact ⟨rfl, .refl _⟩⟩
              refine .cons rfl rfl rfl (.step ?_) ?_
              ·
                refine wpO.val rfl (oper_bin rfl rfl binD_neq) rfl ?_
                exact wpO.nil ⟨_, _, rfl, fun _ ht => by cases ht; exact ⟨rfl, .refl _⟩⟩
              refine .cons rfl rfl rfl (.step ?_) ?_
              ·
                refine wpO.val rfl (oper_pick (b := false) rfl rfl) rfl ?_
                exact wpO.nil ⟨_, _, rfl, fun _ ht => by cases ht; exact ⟨rfl, .refl _⟩⟩
              refine .cons rfl rfl rfl (.step ?_) ?_
              ·
                refine wpO.val rfl (oper_move rfl) rfl ?_
                exact wpO.nil ⟨_, _, rfl, fun _ ht => by cases ht; exact ⟨rfl, (.eq (by rw [hb71]))⟩⟩
              refine .cons rfl rfl rfl (.no rfl (.refl _)) ?_
              refine .cons rfl rfl rfl (.no rfl (.refl _)) ?_
              refine .cons rfl rfl rfl (.no rfl (.refl _)) ?_
              refine .cons rfl rfl rfl (.no rfl (.refl _)) ?_
              refine .cons rfl rfl rfl (.step ?_) ?_
              ·
                refine wpO.val rfl (oper_pick (b := true) rfl rfl) rfl ?_
                exact wpO.nil ⟨_, _, rfl, fun _ ht => by cases ht; exact ⟨rfl, .refl _⟩⟩
              refine .cons rfl rfl rfl (.step ?_) ?_
              ·
                refine wpO.val rfl (oper_move rfl) rfl ?_
                exact wpO.nil ⟨_, _, rfl, fun _ ht => by cases ht; exact ⟨rfl, .refl _⟩⟩
              refine .cons rfl rfl rfl (.no rfl (.refl _)) ?_
              refine .cons rfl rfl rfl (.no rfl (.refl _)) ?_
              refine .cons rfl rfl rfl (.no rfl (.refl _)) ?_
              refine .cons rfl rfl rfl (.no rfl (.refl _)) ?_
              refine .cons rfl rfl rfl (.no rfl (.refl _)) ?_
              refine .cons rfl rfl rfl (.no rfl (.refl _)) ?_
              refine .cons rfl rfl rfl (.no rfl (.refl _)) ?_
              refine .cons rfl rfl rfl (.step ?_) ?_
              ·
                refine wpO.val rfl (oper_pick (b := true) rfl rfl) rfl ?_
                exact wpO.nil ⟨_, _, rfl, fun _ ht => by cases ht; exact ⟨rfl, .refl _⟩⟩
              refine .cons rfl rfl rfl (.step ?_) ?_
              ·
                refine wpO.val rfl (oper_move rfl) rfl ?_
                exact wpO.nil ⟨_, _, rfl, fun _ ht => by cases ht; exact ⟨rfl, .refl _⟩⟩
              refine .cons rfl rfl rfl (.no rfl (.refl _)) ?_
              refine .cons rfl rfl rfl (.no rfl (.refl _)) ?_
              refine .cons rfl rfl rfl (.no rfl (.refl _)) ?_
              refine .cons rfl rfl rfl (.no rfl (.refl _)) ?_
              refine .cons rfl rfl rfl (.step ?_) ?_
              ·
                refine wpO.val rfl (oper_pick (b := true) rfl rfl) rfl ?_
                exact wpO.nil ⟨_, _, rfl, fun _ ht => by cases ht; exact ⟨rfl, .refl _⟩⟩
              exact .nil
            exact ⟨true, _, _, S39, .refl _ _, .refl _, (WeakE.cons rfl (.refl _) (WeakE.cons rfl (.refl _) (WeakE.cons rfl (.refl _) WeakE.nil))), H40.sel [0, 1, 3] (by decide) rfl, h⟩
          ·
            replace h := if_f hb71 h
            obtain ⟨z72, hzz72, h⟩ := bind_some h
            rcases Bool.eq_false_or_eq_true ((!z72)) with hb73 | hb73
            ·
              replace h := if_t hb73 h
              refine WpC.drawP (objR1 E) hmix [[(5, none)], [(23, some 0)], [(24, some 1)], [(25, some 2)], [(5, none), (26, some 3)], [(27, some 4), (26, some 3)], [(8, none), (26, some 3)], [(28, some 5), (29, some 6), (26, some 3)], [(26, some 3), (30, some 7)], [(31, some 8)], [(5, none), (32, some 9)], [(33, some 10), (32, some 9)], [(9, none), (32, some 9)], [(34, some 11), (35, some 12), (32, some 9)], [(32, some 9), (36, some 13)], [(37, some 14)], [(5, none), (38, some 15)], [(39, some 16), (38, some 15)], [(10, none), (38, some 15)], [(40, some 17), (41, some 18), (38, some 15)], [(38, some 15), (42, some 19)], [(43, some 20)], [(7, none), (44, some 21)], [(5, none), (44, some 21)], [(45, some 22), (46, some 23), (44, some 21)], [(47, some 24), (44, some 21)], [(44, some 21), (48, some 25)], [(49, some 26)], [(5, none), (50, some 27)], [(6, none), (50, some 27)], [(51, some 28), (52, some 29), (50, some 27)], [(5, none), (50, some 27)], [(6, none), (50, some 27)], [(54, some 31), (55, some 32), (50, some 27)], [(53, some 30), (56, some 33), (50, some 27)], [(50, some 27), (57, some 34)], [(58, some 35)], [(7, none), (59, some 36)], [(5, none), (59, some 36)], [(60, some 37), (61, some 38), (59, some 36)], [(62, some 39), (59, some 36)], [(59, some 36), (63, some 40)]] [(5, none), (7, none), (64, some 41)] (by kernel_rfl) [] (by decide) [some (.d (encTree z10)), some (.d (.bool z64)), some (.d (.bool (!z64))), some (.d (.bool false)), some (.d (encTree z10)), some (.d (.int .i64 z66)), some (.d (.int .i64 z41.1)), some (.d (.bool (z66 != z41.1))), some (.d (.bool (z66 != z41.1))), some (.d (.bool false)), some (.d (encTree z10)), some (.d (.int .i64 z68)), some (.d (.int .i64 z41.2.1)), some (.d (.bool (z68 != z41.2.1))), some (.d (.bool (z68 != z41.2.1))), some (.d (.bool false)), some (.d (encTree z10)), some (.d (.int .i64 z70)), some (.d (.int .i64 z41.2.2)), some (.d (.bool (z70 != z41.2.2))), some (.d (.bool (z70 != z41.2.2))), some (.d (.bool false)), some (Ev.mkAgg [(.d (.str z29.Tag)), (.d (.str z29.Key)), (.d (.str z29.Text)), (.d (.sl ((z29.Attrs).map encAttr) false)), v35]), some (.d (encTree z10)), some (.d (.bool z72)), some (.d (.bool (!z72))), some (.d (.bool (!z72))), some (.d (.bool true)), some (.tup []), some (.tup []), some (.tup []), some (.tup []), some (.tup []), some (.tup []), some (.tup []), some (.d (.bool true)), some (.d (.bool true)), some (.tup []), some (.tup []), some (.tup []), some (.tup []), some (.d (.bool true))] ?_
              refine ⟨[0, 1, 2, 3, 4, 5, 6, 7, 8, 9, 10, 11, 12, 13, 14, 15, 16, 17, 18, 19, 20, 21, 22, 23, 24, 25, 26, 27, 28, 29, 30, 31, 32, 33, 34, 35, 36, 37, 38, 39, 40, 41], by kernel_rfl, ?_, _, rfl, ?_⟩
              ·
                refine .cons rfl rfl rfl (.step ?_) ?_
                ·
                  refine wpO.val rfl (oper_load H40 (i := 3) rfl rfl (part_agg ag28 sz28 rfl)) rfl ?_
                  refine wpO.less (Less.agg' (d := encTree z10) (CellsC.eq rfl (CellsC.eq rfl (CellsC.eq rfl (CellsC.eq rfl (CellsC.eq rfl .nil))))) ((Tree.eq _).trans rfl)) ?_
                  exact wpO.nil ⟨_, _, rfl, fun _ ht => by cases ht; exact ⟨rfl, .refl _⟩⟩
                refine .cons rfl rfl rfl (.step ?_) ?_
                ·
                  refine wpO.ret rfl (oper_callF rfl rfl) (shape_Right_ok E _ _ _ hzz64 _ _ (ArgsC.eq .nil)) rfl ?_
                  exact wpO.nil ⟨_, _, rfl, fun _ ht => by cases ht; exact ⟨rfl, .refl _⟩⟩
                refine .cons rfl rfl rfl (.step ?_) ?_
                ·
                  refine wpO.val rfl (oper_not rfl) rfl ?_
                  exact wpO.nil ⟨_, _, rfl, fun _ ht => by cases ht; exact ⟨rfl, .refl _⟩⟩
                refine .cons rfl rfl rfl (.step ?_) ?_
                ·
                  refine wpO.val rfl (oper_move rfl) rfl ?_
                  exact wpO.nil ⟨_, _, rfl, fun _ ht => by cases ht; exact ⟨rfl, (.eq (by rw [hb65]))⟩⟩
                refine .cons rfl rfl rfl (.step ?_) ?_
                ·
                  refine wpO.val rfl (oper_load H40 (i := 3) rfl rfl (part_agg ag28 sz28 rfl)) rfl ?_
                  refine wpO.less (Less.agg' (d := encTree z10) (CellsC.eq rfl (CellsC.eq rfl (CellsC.eq rfl (CellsC.eq rfl (CellsC.eq rfl .nil))))) ((Tree.eq _).trans rfl)) ?_
                  exact wpO.nil ⟨_, _, rfl, fun _ ht => by cases ht; exact ⟨rfl, .refl _⟩⟩
                refine .cons rfl rfl rfl (.step ?_) ?_
                ·
                  refine wpO.ret rfl (oper_callF rfl rfl) (shape_Count_ok E _ _ _ hzz66 _ _ (ArgsC.eq .nil)) rfl ?_
                  exact wpO.nil ⟨_, _, rfl, fun _ ht => by cases ht; exact ⟨rfl, .refl _⟩⟩
                refine .cons rfl rfl rfl (.step ?_) ?_
                ·
                  refine wpO.val rfl (oper_move rfl) rfl ?_
                  exact wpO.nil ⟨_, _, rfl, fun _ ht => by cases ht; exact ⟨rfl, .refl _⟩⟩
                refine .cons rfl rfl rfl (.step ?_) ?_
                ·
                  refine wpO.val rfl (oper_bin rfl rfl binD_neq) rfl ?_
                  exact wpO.nil ⟨_, _, rfl, fun _ ht => by cases ht; exact ⟨rfl, .refl _⟩⟩
                refine .cons rfl rfl rfl (.step ?_) ?_
                ·
                  refine wpO.val rfl (oper_pick (b := false) rfl rfl) rfl ?_
                  exact wpO.nil ⟨_, _, rfl, fun _ ht => by cases ht; exact ⟨rfl, .refl _⟩⟩
                refine .cons rfl rfl rfl (.step ?_) ?_
                ·
                  refine wpO.val rfl (oper_move rfl) rfl ?_
                  exact wpO.nil ⟨_, _, rfl, fun _ ht => by cases ht; exact ⟨rfl, (.eq (by rw [hb67]))⟩⟩
                refine .cons rfl rfl rfl (.step ?_) ?_
                ·
                  refine wpO.val rfl (oper_load H40 (i := 3) rfl rfl (part_agg ag28 sz28 rfl)) rfl ?_
                  refine wpO.less (Less.agg' (d := encTree z10) (CellsC.eq rfl (CellsC.eq rfl (CellsC.eq rfl (CellsC.eq rfl (CellsC.eq rfl .nil))))) ((Tree.eq _).trans rfl)) ?_
                  exact wpO.nil ⟨_, _, rfl, fun _ ht => by cases ht; exact ⟨rfl, .refl _⟩⟩
                refine .cons rfl rfl rfl (.step ?_) ?_
                ·
                  refine wpO.ret rfl (oper_callF rfl rfl) (shape_Deep_ok E _ _ _ hzz68 _ _ (ArgsC.eq .nil)) rfl ?_
                  exact wpO.nil ⟨_, _, rfl, fun _ ht => by cases ht; exact ⟨rfl, .refl _⟩⟩
                refine .cons rfl rfl rfl (.step ?_) ?_
                ·
                  refine wpO.val rfl (oper_move rfl) rfl ?_
                  exact wpO.nil ⟨_, _, rfl, fun _ ht => by cases ht; exact ⟨rfl, .refl _⟩⟩
                refine .cons rfl rfl rfl (.step ?_) ?_
                ·
                  refine wpO.val rfl (oper_bin rfl rfl binD_neq) rfl ?_
                  exact wpO.nil ⟨_, _, rfl, fun _ ht => by cases ht; exact ⟨rfl, .refl _⟩⟩
                refine .cons rfl rfl rfl (.step ?_) ?_
                ·
                  refine wpO.val rfl (oper_pick (b := false) rfl rfl) rfl ?_
                  exact wpO.nil ⟨_, _, rfl, fun _ ht => by cases ht; exact ⟨rfl, .refl _⟩⟩
                refine .cons rfl rfl rfl (.step ?_) ?_
                ·
                  refine wpO.val rfl (oper_move rfl) rfl ?_
                  exact wpO.nil ⟨_, _, rfl, fun _ ht => by cases ht; exact ⟨rfl, (.eq (by rw [hb69]))⟩⟩
                refine .cons rfl rfl rfl (.step ?_) ?_
                ·
                  refine wpO.val rfl (oper_load H40 (i := 3) rfl rfl (part_agg ag28 sz28 rfl)) rfl ?_
                  refine wpO.less (Less.agg' (d := encTree z10) (CellsC.eq rfl (CellsC.eq rfl (CellsC.eq rfl (CellsC.eq rfl (CellsC.eq rfl .nil))))) ((Tree.eq _).trans rfl)) ?_
                  exact wpO.nil ⟨_, _, rfl, fun _ ht => by cases ht; exact ⟨rfl, .refl _⟩⟩
                refine .cons rfl rfl rfl (.step ?_) ?_
                ·
                  refine wpO.ret rfl (oper_callF rfl rfl) (shape_Slots_ok E _ _ _ hzz70 _ _ (ArgsC.eq .nil)) rfl ?_
                  exact wpO.nil ⟨_, _, rfl, fun _ ht => by cases ht; exact ⟨rfl, .refl _⟩⟩
                refine .cons rfl rfl rfl (.step ?_) ?_
                ·
                  refine wpO.val rfl (oper_move rfl) rfl ?_
                  exact wpO.nil ⟨_, _, rfl, fun _ ht => by cases ht; exact ⟨rfl, .refl _⟩⟩
                refine .cons rfl rfl rfl (.step ?_) ?_
                ·
                  refine wpO.val rfl (oper_bin rfl rfl binD_neq) rfl ?_
                  exact wpO.nil ⟨_, _, rfl, fun _ ht => by cases ht; exact ⟨rfl, .refl _⟩⟩
                refine .cons rfl rfl rfl (.step ?_) ?_
                ·
                  refine wpO.val rfl (oper_pick (b := false) rfl rfl) rfl ?_
                  exact wpO.nil ⟨_, _, rfl, fun _ ht => by cases ht; exact ⟨rfl, .refl _⟩⟩
                refine .cons rfl rfl rfl (.step ?_) ?_
                ·
                  refine wpO.val rfl (oper_move rfl) rfl ?_
                  exact wpO.nil ⟨_, _, rfl, fun _ ht => by cases ht; exact ⟨rfl, (.eq (by rw [hb71]))⟩⟩
                refine .cons rfl rfl rfl (.step ?_) ?_
                ·
                  refine wpO.val rfl (oper_load H40 (i := 0) rfl rfl (part_agg ag28 sz28 rfl)) rfl ?_
                  exact wpO.nil ⟨_, _, rfl, fun _ ht => by cases ht; exact ⟨rfl, .refl _⟩⟩
                refine .cons rfl rfl rfl (.step ?_) ?_
                ·
                  refine wpO.val rfl (oper_load H40 (i := 3) rfl rfl (part_agg ag28 sz28 rfl)) rfl ?_
                  refine wpO.less (Less.agg' (d := encTree z10) (CellsC.eq rfl (CellsC.eq rfl (CellsC.eq rfl (CellsC.eq rfl (CellsC.eq rfl .nil))))) ((Tree.eq _).trans rfl)) ?_
                  exact wpO.nil ⟨_, _, rfl, fun _ ht => by cases ht; exact ⟨rfl, .refl _⟩⟩
                refine .cons rfl rfl rfl (.step ?_) ?_
                ·
                  refine wpO.retL (objR1 E).toObjOk rfl (oper_callF rfl rfl) (porticokeep_Trees_ok E n _ _ _ hzz72) rfl (.cons ((Tree.eq z29) ▸ Lend.agg (ds := [(.str z29.Tag), (.str z29.Key), (.str z29.Text), (.sl ((z29.Attrs).map encAttr) false), (.sl ((z29.Kids).map encTree) false)]) (.cons (.less (.refl _)) (.cons (.less (.refl _)) (.cons (.less (.refl _)) (.cons (.less (.refl _)) (.cons (Lend.row H40 (i := 1) rfl) .nil))))) rfl) (.cons (.less (.refl _)) .nil)) rfl ?_
                  exact wpO.nil ⟨_, _, rfl, fun _ ht => by cases ht; exact ⟨rfl, .refl _⟩⟩
                refine .cons rfl rfl rfl (.step ?_) ?_
                ·
                  refine wpO.val rfl (oper_not rfl) rfl ?_
                  exact wpO.nil ⟨_, _, rfl, fun _ ht => by cases ht; exact ⟨rfl, .refl _⟩⟩
                refine .cons rfl rfl rfl (.step ?_) ?_
                ·
                  refine wpO.val rfl (oper_pick (b := false) rfl rfl) rfl ?_
                  exact wpO.nil ⟨_, _, rfl, fun _ ht => by cases ht; exact ⟨rfl, .refl _⟩⟩
                refine .cons rfl rfl rfl (.step ?_) ?_
                ·
                  refine wpO.val rfl (oper_move rfl) rfl ?_
                  exact wpO.nil ⟨_, _, rfl, fun _ ht => by cases ht; exact ⟨rfl, (.eq (by rw [hb73]))⟩⟩
                refine .cons rfl rfl rfl (.no rfl (.refl _)) ?_
                refine .cons rfl rfl rfl (.no rfl (.refl _)) ?_
                refine .cons rfl rfl rfl (.no rfl (.refl _)) ?_
                refine .cons rfl rfl rfl (.no rfl (.refl _)) ?_
                refine .cons rfl rfl rfl (.no rfl (.refl _)) ?_
                refine .cons rfl rfl rfl (.no rfl (.refl _)) ?_
                refine .cons rfl rfl rfl (.no rfl (.refl _)) ?_
                refine .cons rfl rfl rfl (.step ?_) ?_
                ·
                  refine wpO.val rfl (oper_pick (b := true) rfl rfl) rfl ?_
                  exact wpO.nil ⟨_, _, rfl, fun _ ht => by cases ht; exact ⟨rfl, .refl _⟩⟩
                refine .cons rfl rfl rfl (.step ?_) ?_
                ·
                  refine wpO.val rfl (oper_move rfl) rfl ?_
                  exact wpO.nil ⟨_, _, rfl, fun _ ht => by cases ht; exact ⟨rfl, .refl _⟩⟩
                refine .cons rfl rfl rfl (.no rfl (.refl _)) ?_
                refine .cons rfl rfl rfl (.no rfl (.refl _)) ?_
                refine .cons rfl rfl rfl (.no rfl (.refl _)) ?_
                refine .cons rfl rfl rfl (.no rfl (.refl _)) ?_
                refine .cons rfl rfl rfl (.step ?_) ?_
                ·
                  refine wpO.val rfl (oper_pick (b := true) rfl rfl) rfl ?_
                  exact wpO.nil ⟨_, _, rfl, fun _ ht => by cases ht; exact ⟨rfl, .refl _⟩⟩
                exact .nil
              exact ⟨true, _, _, S39, .refl _ _, .refl _, (WeakE.cons rfl (.refl _) (WeakE.cons rfl (.refl _) (WeakE.cons rfl (.refl _) WeakE.nil))), H40.sel [0, 1, 3] (by decide) rfl, h⟩
            ·
              replace h := if_f hb73 h
              obtain ⟨z74, hzz74, h⟩ := bind_some h
              obtain ⟨z75, hzz75, h⟩ := bind_some h
              rcases Bool.eq_false_or_eq_true ((!(z74 == z75))) with hb76 | hb76
              ·
                replace h := if_t hb76 h
                refine WpC.drawP (objR1 E) hmix [[(5, none)], [(23, some 0)], [(24, some 1)], [(25, some 2)], [(5, none), (26, some 3)], [(27, some 4), (26, some 3)], [(8, none), (26, some 3)], [(28, some 5), (29, some 6), (26, some 3)], [(26, some 3), (30, some 7)], [(31, some 8)], [(5, none), (32, some 9)], [(33, some 10), (32, some 9)], [(9, none), (32, some 9)], [(34, some 11), (35, some 12), (32, some 9)], [(32, some 9), (36, some 13)], [(37, some 14)], [(5, none), (38, some 15)], [(39, some 16), (38, some 15)], [(10, none), (38, some 15)], [(40, some 17), (41, some 18), (38, some 15)], [(38, some 15), (42, some 19)], [(43, some 20)], [(7, none), (44, some 21)], [(5, none), (44, some 21)], [(45, some 22), (46, some 23), (44, some 21)], [(47, some 24), (44, some 21)], [(44, some 21), (48, some 25)], [(49, some 26)], [(5, none), (50, some 27)], [(6, none), (50, some 27)], [(51, some 28), (52, some 29), (50, some 27)], [(5, none), (50, some 27)], [(6, none), (50, some 27)], [(54, some 31), (55, some 32), (50, some 27)], [(53, some 30), (56, some 33), (50, some 27)], [(50, some 27), (57, some 34)], [(58, some 35)], [(7, none), (59, some 36)], [(5, none), (59, some 36)], [(60, some 37), (61, some 38), (59, some 36)], [(62, some 39), (59, some 36)], [(59, some 36), (63, some 40)]] [(5, none), (7, none), (64, some 41)] (by kernel_rfl) [] (by decide) [some (.d (encTree z10)), some (.d (.bool z64)), some (.d (.bool (!z64))), some (.d (.bool false)), some (.d (encTree z10)), some (.d (.int .i64 z66)), some (.d (.int .i64 z41.1)), some (.d (.bool (z66 != z41.1))), some (.d (.bool (z66 != z41.1))), some (.d (.bool false)), some (.d (encTree z10)), some (.d (.int .i64 z68)), some (.d (.int .i64 z41.2.1)), some (.d (.bool (z68 != z41.2.1))), some (.d (.bool (z68 != z41.2.1))), some (.d (.bool false)), some (.d (encTree z10)), some (.d (.int .i64 z70)), some (.d (.int .i64 z41.2.2)), some (.d (.bool (z70 != z41.2.2))), some (.d (.bool (z70 != z41.2.2))), some (.d (.bool false)), some (Ev.mkAgg [(.d (.str z29.Tag)), (.d (.str z29.Key)), (.d (.str z29.Text)), (.d (.sl ((z29.Attrs).map encAttr) false)), v35]), some (.d (encTree z10)), some (.d (.bool z72)), some (.d (.bool (!z72))), some (.d (.bool (!z72))), some (.d (.bool false)), some (.d (encTree z10)), some (.d (encTree z11)), some (.d (.bool z74)), some (.d (encTree z10)), some (.d (encTree z11)), some (.d (.bool z75)), some (.d (.bool (!(z74 == z75)))), some (.d (.bool (!(z74 == z75)))), some (.d (.bool true)), some (.tup []), some (.tup []), some (.tup []), some (.tup []), some (.d (.bool true))] ?_
                refine ⟨[0, 1, 2, 3, 4, 5, 6, 7, 8, 9, 10, 11, 12, 13, 14, 15, 16, 17, 18, 19, 20, 21, 22, 23, 24, 25, 26, 27, 28, 29, 30, 31, 32, 33, 34, 35, 36, 37, 38, 39, 40, 41], by kernel_rfl, ?_, _, rfl, ?_⟩
                ·
                  refine .cons rfl rfl rfl (.step ?_) ?_
                  ·
                    refine wpO.val rfl (oper_load H40 (i := 3) rfl rfl (part_agg ag28 sz28 rfl)) rfl ?_
                    refine wpO.less (Less.agg' (d := encTree z10) (CellsC.eq rfl (CellsC.eq rfl (CellsC.eq rfl (CellsC.eq rfl (CellsC.eq rfl .nil))))) ((Tree.eq _).trans rfl)) ?_
                    exact wpO.nil ⟨_, _, rfl, fun _ ht => by cases ht; exact ⟨rfl, .refl _⟩⟩
                  refine .cons rfl rfl rfl (.step ?_) ?_
                  ·
                    refine wpO.ret rfl (oper_callF rfl rfl) (shape_Right_ok E _ _ _ hzz64 _ _ (ArgsC.eq .nil)) rfl ?_
                    exact wpO.nil ⟨_, _, rfl, fun _ ht => by cases ht; exact ⟨rfl, .refl _⟩⟩
                  refine .cons rfl rfl rfl (.step ?_) ?_
                  ·
                    refine wpO.val rfl (oper_not rfl) rfl ?_
                    exact wpO.nil ⟨_, _, rfl, fun _ ht => by cases ht; exact ⟨rfl, .refl _⟩⟩
                  refine .cons rfl rfl rfl (.step ?_) ?_
                  ·
                    refine wpO.val rfl (oper_move rfl) rfl ?_
                    exact wpO.nil ⟨_, _, rfl, fun _ ht => by cases ht; exact ⟨rfl, (.eq (by rw [hb65]))⟩⟩
                  refine .cons rfl rfl rfl (.step ?_) ?_
                  ·
                    refine wpO.val rfl (oper_load H40 (i := 3) rfl rfl (part_agg ag28 sz28 rfl)) rfl ?_
                    refine wpO.less (Less.agg' (d := encTree z10) (CellsC.eq rfl (CellsC.eq rfl (CellsC.eq rfl (CellsC.eq rfl (CellsC.eq rfl .nil))))) ((Tree.eq _).trans rfl)) ?_
                    exact wpO.nil ⟨_, _, rfl, fun _ ht => by cases ht; exact ⟨rfl, .refl _⟩⟩
                  refine .cons rfl rfl rfl (.step ?_) ?_
                  ·
                    refine wpO.ret rfl (oper_callF rfl rfl) (shape_Count_ok E _ _ _ hzz66 _ _ (ArgsC.eq .nil)) rfl ?_
                    exact wpO.nil ⟨_, _, rfl, fun _ ht => by cases ht; exact ⟨rfl, .refl _⟩⟩
                  refine .cons rfl rfl rfl (.step ?_) ?_
                  ·
                    refine wpO.val rfl (oper_move rfl) rfl ?_
                    exact wpO.nil ⟨_, _, rfl, fun _ ht => by cases ht; exact ⟨rfl, .refl _⟩⟩
                  refine .cons rfl rfl rfl (.step ?_) ?_
                  ·
                    refine wpO.val rfl (oper_bin rfl rfl binD_neq) rfl ?_
                    exact wpO.nil ⟨_, _, rfl, fun _ ht => by cases ht; exact ⟨rfl, .refl _⟩⟩
                  refine .cons rfl rfl rfl (.step ?_) ?_
                  ·
                    refine wpO.val rfl (oper_pick (b := false) rfl rfl) rfl ?_
                    exact wpO.nil ⟨_, _, rfl, fun _ ht => by cases ht; exact ⟨rfl, .refl _⟩⟩
                  refine .cons rfl rfl rfl (.step ?_) ?_
                  ·
                    refine wpO.val rfl (oper_move rfl) rfl ?_
                    exact wpO.nil ⟨_, _, rfl, fun _ ht => by cases ht; exact ⟨rfl, (.eq (by rw [hb67]))⟩⟩
                  refine .cons rfl rfl rfl (.step ?_) ?_
                  ·
                    refine wpO.val rfl (oper_load H40 (i := 3) rfl rfl (part_agg ag28 sz28 rfl)) rfl ?_
                    refine wpO.less (Less.agg' (d := encTree z10) (CellsC.eq rfl (CellsC.eq rfl (CellsC.eq rfl (CellsC.eq rfl (CellsC.eq rfl .nil))))) ((Tree.eq _).trans rfl)) ?_
                    exact wpO.nil ⟨_, _, rfl, fun _ ht => by cases ht; exact ⟨rfl, .refl _⟩⟩
                  refine .cons rfl rfl rfl (.step ?_) ?_
                  ·
                    refine wpO.ret rfl (oper_callF rfl rfl) (shape_Deep_ok E _ _ _ hzz68 _ _ (ArgsC.eq .nil)) rfl ?_
                    exact wpO.nil ⟨_, _, rfl, fun _ ht => by cases ht; exact ⟨rfl, .refl _⟩⟩
                  refine .cons rfl rfl rfl (.step ?_) ?_
                  ·
                    refine wpO.val rfl (oper_move rfl) rfl ?_
                    exact wpO.nil ⟨_, _, rfl, fun _ ht => by cases ht; exact ⟨rfl, .refl _⟩⟩
                  refine .cons rfl rfl rfl (.step ?_) ?_
                  ·
                    refine wpO.val rfl (oper_bin rfl rfl binD_neq) rfl ?_
                    exact wpO.nil ⟨_, _, rfl, fun _ ht => by cases ht; exact ⟨rfl, .refl _⟩⟩
                  refine .cons rfl rfl rfl (.step ?_) ?_
                  ·
                    refine wpO.val rfl (oper_pick (b := false) rfl rfl) rfl ?_
                    exact wpO.nil ⟨_, _, rfl, fun _ ht => by cases ht; exact ⟨rfl, .refl _⟩⟩
                  refine .cons rfl rfl rfl (.step ?_) ?_
                  ·
                    refine wpO.val rfl (oper_move rfl) rfl ?_
                    exact wpO.nil ⟨_, _, rfl, fun _ ht => by cases ht; exact ⟨rfl, (.eq (by rw [hb69]))⟩⟩
                  refine .cons rfl rfl rfl (.step ?_) ?_
                  ·
                    refine wpO.val rfl (oper_load H40 (i := 3) rfl rfl (part_agg ag28 sz28 rfl)) rfl ?_
                    refine wpO.less (Less.agg' (d := encTree z10) (CellsC.eq rfl (CellsC.eq rfl (CellsC.eq rfl (CellsC.eq rfl (CellsC.eq rfl .nil))))) ((Tree.eq _).trans rfl)) ?_
                    exact wpO.nil ⟨_, _, rfl, fun _ ht => by cases ht; exact ⟨rfl, .refl _⟩⟩
                  refine .cons rfl rfl rfl (.step ?_) ?_
                  ·
                    refine wpO.ret rfl (oper_callF rfl rfl) (shape_Slots_ok E _ _ _ hzz70 _ _ (ArgsC.eq .nil)) rfl ?_
                    exact wpO.nil ⟨_, _, rfl, fun _ ht => by cases ht; exact ⟨rfl, .refl _⟩⟩
                  refine .cons rfl rfl rfl (.step ?_) ?_
                  ·
                    refine wpO.val rfl (oper_move rfl) rfl ?_
                    exact wpO.nil ⟨_, _, rfl, fun _ ht => by cases ht; exact ⟨rfl, .refl _⟩⟩
                  refine .cons rfl rfl rfl (.step ?_) ?_
                  ·
                    refine wpO.val rfl (oper_bin rfl rfl binD_neq) rfl ?_
                    exact wpO.nil ⟨_, _, rfl, fun _ ht => by cases ht; exact ⟨rfl, .refl _⟩⟩
                  refine .cons rfl rfl rfl (.step ?_) ?_
                  ·
                    refine wpO.val rfl (oper_pick (b := false) rfl rfl) rfl ?_
                    exact wpO.nil ⟨_, _, rfl, fun _ ht => by cases ht; exact ⟨rfl, .refl _⟩⟩
                  refine .cons rfl rfl rfl (.step ?_) ?_
                  ·
                    refine wpO.val rfl (oper_move rfl) rfl ?_
                    exact wpO.nil ⟨_, _, rfl, fun _ ht => by cases ht; exact ⟨rfl, (.eq (by rw [hb71]))⟩⟩
                  refine .cons rfl rfl rfl (.step ?_) ?_
                  ·
                    refine wpO.val rfl (oper_load H40 (i := 0) rfl rfl (part_agg ag28 sz28 rfl)) rfl ?_
                    exact wpO.nil ⟨_, _, rfl, fun _ ht => by cases ht; exact ⟨rfl, .refl _⟩⟩
                  refine .cons rfl rfl rfl (.step ?_) ?_
                  ·
                    refine wpO.val rfl (oper_load H40 (i := 3) rfl rfl (part_agg ag28 sz28 rfl)) rfl ?_
                    refine wpO.less (Less.agg' (d := encTree z10) (CellsC.eq rfl (CellsC.eq rfl (CellsC.eq rfl (CellsC.eq rfl (CellsC.eq rfl .nil))))) ((Tree.eq _).trans rfl)) ?_
                    exact wpO.nil ⟨_, _, rfl, fun _ ht => by cases ht; exact ⟨rfl, .refl _⟩⟩
                  refine .cons rfl rfl rfl (.step ?_) ?_
                  ·
                    refine wpO.retL (objR1 E).toObjOk rfl (oper_callF rfl rfl) (porticokeep_Trees_ok E n _ _ _ hzz72) rfl (.cons ((Tree.eq z29) ▸ Lend.agg (ds := [(.str z29.Tag), (.str z29.Key), (.str z29.Text), (.sl ((z29.Attrs).map encAttr) false), (.sl ((z29.Kids).map encTree) false)]) (.cons (.less (.refl _)) (.cons (.less (.refl _)) (.cons (.less (.refl _)) (.cons (.less (.refl _)) (.cons (Lend.row H40 (i := 1) rfl) .nil))))) rfl) (.cons (.less (.refl _)) .nil)) rfl ?_
                    exact wpO.nil ⟨_, _, rfl, fun _ ht => by cases ht; exact ⟨rfl, .refl _⟩⟩
                  refine .cons rfl rfl rfl (.step ?_) ?_
                  ·
                    refine wpO.val rfl (oper_not rfl) rfl ?_
                    exact wpO.nil ⟨_, _, rfl, fun _ ht => by cases ht; exact ⟨rfl, .refl _⟩⟩
                  refine .cons rfl rfl rfl (.step ?_) ?_
                  ·
                    refine wpO.val rfl (oper_pick (b := false) rfl rfl) rfl ?_
                    exact wpO.nil ⟨_, _, rfl, fun _ ht => by cases ht; exact ⟨rfl, .refl _⟩⟩
                  refine .cons rfl rfl rfl (.step ?_) ?_
                  ·
                    refine wpO.val rfl (oper_move rfl) rfl ?_
                    exact wpO.nil ⟨_, _, rfl, fun _ ht => by cases ht; exact ⟨rfl, (.eq (by rw [hb73]))⟩⟩
                  refine .cons rfl rfl rfl (.step ?_) ?_
                  ·
                    refine wpO.val rfl (oper_load H40 (i := 3) rfl rfl (part_agg ag28 sz28 rfl)) rfl ?_
                    refine wpO.less (Less.agg' (d := encTree z10) (CellsC.eq rfl (CellsC.eq rfl (CellsC.eq rfl (CellsC.eq rfl (CellsC.eq rfl .nil))))) ((Tree.eq _).trans rfl)) ?_
                    exact wpO.nil ⟨_, _, rfl, fun _ ht => by cases ht; exact ⟨rfl, .refl _⟩⟩
                  refine .cons rfl rfl rfl (.step ?_) ?_
                  ·
                    refine wpO.val rfl (oper_load H40 (i := 2) rfl rfl (part_agg ag28 sz28 rfl)) rfl ?_
                    refine wpO.less (Less.agg' (d := encTree z11) (CellsC.eq rfl (CellsC.eq rfl (CellsC.eq rfl (CellsC.eq rfl (CellsC.eq rfl .nil))))) ((Tree.eq _).trans rfl)) ?_
                    exact wpO.nil ⟨_, _, rfl, fun _ ht => by cases ht; exact ⟨rfl, .refl _⟩⟩
                  refine .cons rfl rfl rfl (.step ?_) ?_
                  ·
                    refine wpO.ret rfl (oper_callF rfl rfl) (shape_Same_ok E _ _ _ _ hzz74 _ _ (ArgsC.eq (ArgsC.eq .nil))) rfl ?_
                    exact wpO.nil ⟨_, _, rfl, fun _ ht => by cases ht; exact ⟨rfl, .refl _⟩⟩
                  refine .cons rfl rfl rfl (.step ?_) ?_
                  ·
                    refine wpO.val rfl (oper_load H40 (i := 3) rfl rfl (part_agg ag28 sz28 rfl)) rfl ?_
                    refine wpO.less (Less.agg' (d := encTree z10) (CellsC.eq rfl (CellsC.eq rfl (CellsC.eq rfl (CellsC.eq rfl (CellsC.eq rfl .nil))))) ((Tree.eq _).trans rfl)) ?_
                    exact wpO.nil ⟨_, _, rfl, fun _ ht => by cases ht; exact ⟨rfl, .refl _⟩⟩
                  refine .cons rfl rfl rfl (.step ?_) ?_
                  ·
                    refine wpO.val rfl (oper_load H40 (i := 2) rfl rfl (part_agg ag28 sz28 rfl)) rfl ?_
                    refine wpO.less (Less.agg' (d := encTree z11) (CellsC.eq rfl (CellsC.eq rfl (CellsC.eq rfl (CellsC.eq rfl (CellsC.eq rfl .nil))))) ((Tree.eq _).trans rfl)) ?_
                    exact wpO.nil ⟨_, _, rfl, fun _ ht => by cases ht; exact ⟨rfl, .refl _⟩⟩
                  refine .cons rfl rfl rfl (.step ?_) ?_
                  ·
                    refine wpO.ret rfl (oper_callF rfl rfl) (porticokeep_Trees_ok E _ _ _ _ hzz75 _ _ (ArgsC.eq (ArgsC.eq .nil))) rfl ?_
                    exact wpO.nil ⟨_, _, rfl, fun _ ht => by cases ht; exact ⟨rfl, .refl _⟩⟩
                  refine .cons rfl rfl rfl (.step ?_) ?_
                  ·
                    refine wpO.val rfl (oper_bin rfl rfl (binD_bneq ub4)) rfl ?_
                    exact wpO.nil ⟨_, _, rfl, fun _ ht => by cases ht; exact ⟨rfl, .refl _⟩⟩
                  refine .cons rfl rfl rfl (.step ?_) ?_
                  ·
                    refine wpO.val rfl (oper_pick (b := false) rfl rfl) rfl ?_
                    exact wpO.nil ⟨_, _, rfl, fun _ ht => by cases ht; exact ⟨rfl, .refl _⟩⟩
                  refine .cons rfl rfl rfl (.step ?_) ?_
                  ·
                    refine wpO.val rfl (oper_move rfl) rfl ?_
                    exact wpO.nil ⟨_, _, rfl, fun _ ht => by cases ht; exact ⟨rfl, (.eq (by rw [hb76]))⟩⟩
                  refine .cons rfl rfl rfl (.no rfl (.refl _)) ?_
                  refine .cons rfl rfl rfl (.no rfl (.refl _)) ?_
                  refine .cons rfl rfl rfl (.no rfl (.refl _)) ?_
                  refine .cons rfl rfl rfl (.no rfl (.refl _)) ?_
                  refine .cons rfl rfl rfl (.step ?_) ?_
                  ·
                    refine wpO.val rfl (oper_pick (b := true) rfl rfl) rfl ?_
                    exact wpO.nil ⟨_, _, rfl, fun _ ht => by cases ht; exact ⟨rfl, .refl _⟩⟩
                  exact .nil
                exact ⟨true, _, _, S39, .refl _ _, .refl _, (WeakE.cons rfl (.refl _) (WeakE.cons rfl (.refl _) (WeakE.cons rfl (.refl _) WeakE.nil))), H40.sel [0, 1, 3] (by decide) rfl, h⟩
              ·
                replace h := if_f hb76 h
                obtain ⟨z77, hzz77, h⟩ := bind_some h
                refine WpC.drawP (objR1 E) hmix [[(5, none)], [(23, some 0)], [(24, some 1)], [(25, some 2)], [(5, none), (26, some 3)], [(27, some 4), (26, some 3)], [(8, none), (26, some 3)], [(28, some 5), (29, some 6), (26, some 3)], [(26, some 3), (30, some 7)], [(31, some 8)], [(5, none), (32, some 9)], [(33, some 10), (32, some 9)], [(9, none), (32, some 9)], [(34, some 11), (35, some 12), (32, some 9)], [(32, some 9), (36, some 13)], [(37, some 14)], [(5, none), (38, some 15)], [(39, some 16), (38, some 15)], [(10, none), (38, some 15)], [(40, some 17), (41, some 18), (38, some 15)], [(38, some 15), (42, some 19)], [(43, some 20)], [(7, none), (44, some 21)], [(5, none), (44, some 21)], [(45, some 22), (46, some 23), (44, some 21)], [(47, some 24), (44, some 21)], [(44, some 21), (48, some 25)], [(49, some 26)], [(5, none), (50, some 27)], [(6, none), (50, some 27)], [(51, some 28), (52, some 29), (50, some 27)], [(5, none), (50, some 27)], [(6, none), (50, some 27)], [(54, some 31), (55, some 32), (50, some 27)], [(53, some 30), (56, some 33), (50, some 27)], [(50, some 27), (57, some 34)], [(58, some 35)], [(7, none), (59, some 36)], [(5, none), (59, some 36)], [(60, some 37), (61, some 38), (59, some 36)], [(62, some 39), (59, some 36)], [(59, some 36), (63, some 40)]] [(5, none), (7, none), (64, some 41)] (by kernel_rfl) [] (by decide) [some (.d (encTree z10)), some (.d (.bool z64)), some (.d (.bool (!z64))), some (.d (.bool false)), some (.d (encTree z10)), some (.d (.int .i64 z66)), some (.d (.int .i64 z41.1)), some (.d (.bool (z66 != z41.1))), some (.d (.bool (z66 != z41.1))), some (.d (.bool false)), some (.d (encTree z10)), some (.d (.int .i64 z68)), some (.d (.int .i64 z41.2.1)), some (.d (.bool (z68 != z41.2.1))), some (.d (.bool (z68 != z41.2.1))), some (.d (.bool false)), some (.d (encTree z10)), some (.d (.int .i64 z70)), some (.d (.int .i64 z41.2.2)), some (.d (.bool (z70 != z41.2.2))), some (.d (.bool (z70 != z41.2.2))), some (.d (.bool false)), some (Ev.mkAgg [(.d (.str z29.Tag)), (.d (.str z29.Key)), (.d (.str z29.Text)), (.d (.sl ((z29.Attrs).map encAttr) false)), v35]), some (.d (encTree z10)), some (.d (.bool z72)), some (.d (.bool (!z72))), some (.d (.bool (!z72))), some (.d (.bool false)), some (.d (encTree z10)), some (.d (encTree z11)), some (.d (.bool z74)), some (.d (encTree z10)), some (.d (encTree z11)), some (.d (.bool z75)), some (.d (.bool (!(z74 == z75)))), some (.d (.bool (!(z74 == z75)))), some (.d (.bool false)), some (Ev.mkAgg [(.d (.str z29.Tag)), (.d (.str z29.Key)), (.d (.str z29.Text)), (.d (.sl ((z29.Attrs).map encAttr) false)), v35]), some (.d (encTree z10)), some (.d (.bool z77)), some (.d (.bool (!z77))), some (.d (.bool (!z77)))] ?_
                refine ⟨[0, 1, 2, 3, 4, 5, 6, 7, 8, 9, 10, 11, 12, 13, 14, 15, 16, 17, 18, 19, 20, 21, 22, 23, 24, 25, 26, 27, 28, 29, 30, 31, 32, 33, 34, 35, 36, 37, 38, 39, 40, 41], by kernel_rfl, ?_, _, rfl, ?_⟩
                ·
                  refine .cons rfl rfl rfl (.step ?_) ?_
                  ·
                    refine wpO.val rfl (oper_load H40 (i := 3) rfl rfl (part_agg ag28 sz28 rfl)) rfl ?_
                    refine wpO.less (Less.agg' (d := encTree z10) (CellsC.eq rfl (CellsC.eq rfl (CellsC.eq rfl (CellsC.eq rfl (CellsC.eq rfl .nil))))) ((Tree.eq _).trans rfl)) ?_
                    exact wpO.nil ⟨_, _, rfl, fun _ ht => by cases ht; exact ⟨rfl, .refl _⟩⟩
                  refine .cons rfl rfl rfl (.step ?_) ?_
                  ·
                    refine wpO.ret rfl (oper_callF rfl rfl) (shape_Right_ok E _ _ _ hzz64 _ _ (ArgsC.eq .nil)) rfl ?_
                    exact wpO.nil ⟨_, _, rfl, fun _ ht => by cases ht; exact ⟨rfl, .refl _⟩⟩
                  refine .cons rfl rfl rfl (.step ?_) ?_
                  ·
                    refine wpO.val rfl (oper_not rfl) rfl ?_
                    exact wpO.nil ⟨_, _, rfl, fun _ ht => by cases ht; exact ⟨rfl, .refl _⟩⟩
                  refine .cons rfl rfl rfl (.step ?_) ?_
                  ·
                    refine wpO.val rfl (oper_move rfl) rfl ?_
                    exact wpO.nil ⟨_, _, rfl, fun _ ht => by cases ht; exact ⟨rfl, (.eq (by rw [hb65]))⟩⟩
                  refine .cons rfl rfl rfl (.step ?_) ?_
                  ·
                    refine wpO.val rfl (oper_load H40 (i := 3) rfl rfl (part_agg ag28 sz28 rfl)) rfl ?_
                    refine wpO.less (Less.agg' (d := encTree z10) (CellsC.eq rfl (CellsC.eq rfl (CellsC.eq rfl (CellsC.eq rfl (CellsC.eq rfl .nil))))) ((Tree.eq _).trans rfl)) ?_
                    exact wpO.nil ⟨_, _, rfl, fun _ ht => by cases ht; exact ⟨rfl, .refl _⟩⟩
                  refine .cons rfl rfl rfl (.step ?_) ?_
                  ·
                    refine wpO.ret rfl (oper_callF rfl rfl) (shape_Count_ok E _ _ _ hzz66 _ _ (ArgsC.eq .nil)) rfl ?_
                    exact wpO.nil ⟨_, _, rfl, fun _ ht => by cases ht; exact ⟨rfl, .refl _⟩⟩
                  refine .cons rfl rfl rfl (.step ?_) ?_
                  ·
                    refine wpO.val rfl (oper_move rfl) rfl ?_
                    exact wpO.nil ⟨_, _, rfl, fun _ ht => by cases ht; exact ⟨rfl, .refl _⟩⟩
                  refine .cons rfl rfl rfl (.step ?_) ?_
                  ·
                    refine wpO.val rfl (oper_bin rfl rfl binD_neq) rfl ?_
                    exact wpO.nil ⟨_, _, rfl, fun _ ht => by cases ht; exact ⟨rfl, .refl _⟩⟩
                  refine .cons rfl rfl rfl (.step ?_) ?_
                  ·
                    refine wpO.val rfl (oper_pick (b := false) rfl rfl) rfl ?_
                    exact wpO.nil ⟨_, _, rfl, fun _ ht => by cases ht; exact ⟨rfl, .refl _⟩⟩
                  refine .cons rfl rfl rfl (.step ?_) ?_
                  ·
                    refine wpO.val rfl (oper_move rfl) rfl ?_
                    exact wpO.nil ⟨_, _, rfl, fun _ ht => by cases ht; exact ⟨rfl, (.eq (by rw [hb67]))⟩⟩
                  refine .cons rfl rfl rfl (.step ?_) ?_
                  ·
                    refine wpO.val rfl (oper_load H40 (i := 3) rfl rfl (part_agg ag28 sz28 rfl)) rfl ?_
                    refine wpO.less (Less.agg' (d := encTree z10) (CellsC.eq rfl (CellsC.eq rfl (CellsC.eq rfl (CellsC.eq rfl (CellsC.eq rfl .nil))))) ((Tree.eq _).trans rfl)) ?_
                    exact wpO.nil ⟨_, _, rfl, fun _ ht => by cases ht; exact ⟨rfl, .refl _⟩⟩
                  refine .cons rfl rfl rfl (.step ?_) ?_
                  ·
                    refine wpO.ret rfl (oper_callF rfl rfl) (shape_Deep_ok E _ _ _ hzz68 _ _ (ArgsC.eq .nil)) rfl ?_
                    exact wpO.nil ⟨_, _, rfl, fun _ ht => by cases ht; exact ⟨rfl, .refl _⟩⟩
                  refine .cons rfl rfl rfl (.step ?_) ?_
                  ·
                    refine wpO.val rfl (oper_move rfl) rfl ?_
                    exact wpO.nil ⟨_, _, rfl, fun _ ht => by cases ht; exact ⟨rfl, .refl _⟩⟩
                  refine .cons rfl rfl rfl (.step ?_) ?_
                  ·
                    refine wpO.val rfl (oper_bin rfl rfl binD_neq) rfl ?_
                    exact wpO.nil ⟨_, _, rfl, fun _ ht => by cases ht; exact ⟨rfl, .refl _⟩⟩
                  refine .cons rfl rfl rfl (.step ?_) ?_
                  ·
                    refine wpO.val rfl (oper_pick (b := false) rfl rfl) rfl ?_
                    exact wpO.nil ⟨_, _, rfl, fun _ ht => by cases ht; exact ⟨rfl, .refl _⟩⟩
                  refine .cons rfl rfl rfl (.step ?_) ?_
                  ·
                    refine wpO.val rfl (oper_move rfl) rfl ?_
                    exact wpO.nil ⟨_, _, rfl, fun _ ht => by cases ht; exact ⟨rfl, (.eq (by rw [hb69]))⟩⟩
                  refine .cons rfl rfl rfl (.step ?_) ?_
                  ·
                    refine wpO.val rfl (oper_load H40 (i := 3) rfl rfl (part_agg ag28 sz28 rfl)) rfl ?_
                    refine wpO.less (Less.agg' (d := encTree z10) (CellsC.eq rfl (CellsC.eq rfl (CellsC.eq rfl (CellsC.eq rfl (CellsC.eq rfl .nil))))) ((Tree.eq _).trans rfl)) ?_
                    exact wpO.nil ⟨_, _, rfl, fun _ ht => by cases ht; exact ⟨rfl, .refl _⟩⟩
                  refine .cons rfl rfl rfl (.step ?_) ?_
                  ·
                    refine wpO.ret rfl (oper_callF rfl rfl) (shape_Slots_ok E _ _ _ hzz70 _ _ (ArgsC.eq .nil)) rfl ?_
                    exact wpO.nil ⟨_, _, rfl, fun _ ht => by cases ht; exact ⟨rfl, .refl _⟩⟩
                  refine .cons rfl rfl rfl (.step ?_) ?_
                  ·
                    refine wpO.val rfl (oper_move rfl) rfl ?_
                    exact wpO.nil ⟨_, _, rfl, fun _ ht => by cases ht; exact ⟨rfl, .refl _⟩⟩
                  refine .cons rfl rfl rfl (.step ?_) ?_
                  ·
                    refine wpO.val rfl (oper_bin rfl rfl binD_neq) rfl ?_
                    exact wpO.nil ⟨_, _, rfl, fun _ ht => by cases ht; exact ⟨rfl, .refl _⟩⟩
                  refine .cons rfl rfl rfl (.step ?_) ?_
                  ·
                    refine wpO.val rfl (oper_pick (b := false) rfl rfl) rfl ?_
                    exact wpO.nil ⟨_, _, rfl, fun _ ht => by cases ht; exact ⟨rfl, .refl _⟩⟩
                  refine .cons rfl rfl rfl (.step ?_) ?_
                  ·
                    refine wpO.val rfl (oper_move rfl) rfl ?_
                    exact wpO.nil ⟨_, _, rfl, fun _ ht => by cases ht; exact ⟨rfl, (.eq (by rw [hb71]))⟩⟩
                  refine .cons rfl rfl rfl (.step ?_) ?_
                  ·
                    refine wpO.val rfl (oper_load H40 (i := 0) rfl rfl (part_agg ag28 sz28 rfl)) rfl ?_
                    exact wpO.nil ⟨_, _, rfl, fun _ ht => by cases ht; exact ⟨rfl, .refl _⟩⟩
                  refine .cons rfl rfl rfl (.step ?_) ?_
                  ·
                    refine wpO.val rfl (oper_load H40 (i := 3) rfl rfl (part_agg ag28 sz28 rfl)) rfl ?_
                    refine wpO.less (Less.agg' (d := encTree z10) (CellsC.eq rfl (CellsC.eq rfl (CellsC.eq rfl (CellsC.eq rfl (CellsC.eq rfl .nil))))) ((Tree.eq _).trans rfl)) ?_
                    exact wpO.nil ⟨_, _, rfl, fun _ ht => by cases ht; exact ⟨rfl, .refl _⟩⟩
                  refine .cons rfl rfl rfl (.step ?_) ?_
                  ·
                    refine wpO.retL (objR1 E).toObjOk rfl (oper_callF rfl rfl) (porticokeep_Trees_ok E n _ _ _ hzz72) rfl (.cons ((Tree.eq z29) ▸ Lend.agg (ds := [(.str z29.Tag), (.str z29.Key), (.str z29.Text), (.sl ((z29.Attrs).map encAttr) false), (.sl ((z29.Kids).map encTree) false)]) (.cons (.less (.refl _)) (.cons (.less (.refl _)) (.cons (.less (.refl _)) (.cons (.less (.refl _)) (.cons (Lend.row H40 (i := 1) rfl) .nil))))) rfl) (.cons (.less (.refl _)) .nil)) rfl ?_
                    exact wpO.nil ⟨_, _, rfl, fun _ ht => by cases ht; exact ⟨rfl, .refl _⟩⟩
                  refine .cons rfl rfl rfl (.step ?_) ?_
                  ·
                    refine wpO.val rfl (oper_not rfl) rfl ?_
                    exact wpO.nil ⟨_, _, rfl, fun _ ht => by cases ht; exact ⟨rfl, .refl _⟩⟩
                  refine .cons rfl rfl rfl (.step ?_) ?_
                  ·
                    refine wpO.val rfl (oper_pick (b := false) rfl rfl) rfl ?_
                    exact wpO.nil ⟨_, _, rfl, fun _ ht => by cases ht; exact ⟨rfl, .refl _⟩⟩
                  refine .cons rfl rfl rfl (.step ?_) ?_
                  ·
                    refine wpO.val rfl (oper_move rfl) rfl ?_
                    exact wpO.nil ⟨_, _, rfl, fun _ ht => by cases ht; exact ⟨rfl, (.eq (by rw [hb73]))⟩⟩
                  refine .cons rfl rfl rfl (.step ?_) ?_
                  ·
                    refine wpO.val rfl (oper_load H40 (i := 3) rfl rfl (part_agg ag28 sz28 rfl)) rfl ?_
                    refine wpO.less (Less.agg' (d := encTree z10) (CellsC.eq rfl (CellsC.eq rfl (CellsC.eq rfl (CellsC.eq rfl (CellsC.eq rfl .nil))))) ((Tree.eq _).trans rfl)) ?_
                    exact wpO.nil ⟨_, _, rfl, fun _ ht => by cases ht; exact ⟨rfl, .refl _⟩⟩
                  refine .cons rfl rfl rfl (.step ?_) ?_
                  ·
                    refine wpO.val rfl (oper_load H40 (i := 2) rfl rfl (part_agg ag28 sz28 rfl)) rfl ?_
                    refine wpO.less (Less.agg' (d := encTree z11) (CellsC.eq rfl (CellsC.eq rfl (CellsC.eq rfl (CellsC.eq rfl (CellsC.eq rfl .nil))))) ((Tree.eq _).trans rfl)) ?_
                    exact wpO.nil ⟨_, _, rfl, fun _ ht => by cases ht; exact ⟨rfl, .refl _⟩⟩
                  refine .cons rfl rfl rfl (.step ?_) ?_
                  ·
                    refine wpO.ret rfl (oper_callF rfl rfl) (shape_Same_ok E _ _ _ _ hzz74 _ _ (ArgsC.eq (ArgsC.eq .nil))) rfl ?_
                    exact wpO.nil ⟨_, _, rfl, fun _ ht => by cases ht; exact ⟨rfl, .refl _⟩⟩
                  refine .cons rfl rfl rfl (.step ?_) ?_
                  ·
                    refine wpO.val rfl (oper_load H40 (i := 3) rfl rfl (part_agg ag28 sz28 rfl)) rfl ?_
                    refine wpO.less (Less.agg' (d := encTree z10) (CellsC.eq rfl (CellsC.eq rfl (CellsC.eq rfl (CellsC.eq rfl (CellsC.eq rfl .nil))))) ((Tree.eq _).trans rfl)) ?_
                    exact wpO.nil ⟨_, _, rfl, fun _ ht => by cases ht; exact ⟨rfl, .refl _⟩⟩
                  refine .cons rfl rfl rfl (.step ?_) ?_
                  ·
                    refine wpO.val rfl (oper_load H40 (i := 2) rfl rfl (part_agg ag28 sz28 rfl)) rfl ?_
                    refine wpO.less (Less.agg' (d := encTree z11) (CellsC.eq rfl (CellsC.eq rfl (CellsC.eq rfl (CellsC.eq rfl (CellsC.eq rfl .nil))))) ((Tree.eq _).trans rfl)) ?_
                    exact wpO.nil ⟨_, _, rfl, fun _ ht => by cases ht; exact ⟨rfl, .refl _⟩⟩
                  refine .cons rfl rfl rfl (.step ?_) ?_
                  ·
                    refine wpO.ret rfl (oper_callF rfl rfl) (porticokeep_Trees_ok E _ _ _ _ hzz75 _ _ (ArgsC.eq (ArgsC.eq .nil))) rfl ?_
                    exact wpO.nil ⟨_, _, rfl, fun _ ht => by cases ht; exact ⟨rfl, .refl _⟩⟩
                  refine .cons rfl rfl rfl (.step ?_) ?_
                  ·
                    refine wpO.val rfl (oper_bin rfl rfl (binD_bneq ub4)) rfl ?_
                    exact wpO.nil ⟨_, _, rfl, fun _ ht => by cases ht; exact ⟨rfl, .refl _⟩⟩
                  refine .cons rfl rfl rfl (.step ?_) ?_
                  ·
                    refine wpO.val rfl (oper_pick (b := false) rfl rfl) rfl ?_
                    exact wpO.nil ⟨_, _, rfl, fun _ ht => by cases ht; exact ⟨rfl, .refl _⟩⟩
                  refine .cons rfl rfl rfl (.step ?_) ?_
                  ·
                    refine wpO.val rfl (oper_move rfl) rfl ?_
                    exact wpO.nil ⟨_, _, rfl, fun _ ht => by cases ht; exact ⟨rfl, (.eq (by rw [hb76]))⟩⟩
                  refine .cons rfl rfl rfl (.step ?_) ?_
                  ·
                    refine wpO.val rfl (oper_load H40 (i := 0) rfl rfl (part_agg ag28 sz28 rfl)) rfl ?_
                    exact wpO.nil ⟨_, _, rfl, fun _ ht => by cases ht; exact ⟨rfl, .refl _⟩⟩
                  refine .cons rfl rfl rfl (.step ?_) ?_
                  ·
                    refine wpO.val rfl (oper_load H40 (i := 3) rfl rfl (part_agg ag28 sz28 rfl)) rfl ?_
                    refine wpO.less (Less.agg' (d := encTree z10) (CellsC.eq rfl (CellsC.eq rfl (CellsC.eq rfl (CellsC.eq rfl (CellsC.eq rfl .nil))))) ((Tree.eq _).trans rfl)) ?_
                    exact wpO.nil ⟨_, _, rfl, fun _ ht => by cases ht; exact ⟨rfl, .refl _⟩⟩
                  refine .cons rfl rfl rfl (.step ?_) ?_
                  ·
                    refine wpO.retL (objR1 E).toObjOk rfl (oper_callF rfl rfl) (shape_Same_ok E n _ _ _ hzz77) rfl (.cons ((Tree.eq z29) ▸ Lend.agg (ds := [(.str z29.Tag), (.str z29.Key), (.str z29.Text), (.sl ((z29.Attrs).map encAttr) false), (.sl ((z29.Kids).map encTree) false)]) (.cons (.less (.refl _)) (.cons (.less (.refl _)) (.cons (.less (.refl _)) (.cons (.less (.refl _)) (.cons (Lend.row H40 (i := 1) rfl) .nil))))) rfl) (.cons (.less (.refl _)) .nil)) rfl ?_
                    exact wpO.nil ⟨_, _, rfl, fun _ ht => by cases ht; exact ⟨rfl, .refl _⟩⟩
                  refine .cons rfl rfl rfl (.step ?_) ?_
                  ·
                    refine wpO.val rfl (oper_not rfl) rfl ?_
                    exact wpO.nil ⟨_, _, rfl, fun _ ht => by cases ht; exact ⟨rfl, .refl _⟩⟩
                  refine .cons rfl rfl rfl (.step ?_) ?_
                  ·
                    refine wpO.val rfl (oper_pick (b := false) rfl rfl) rfl ?_
                    exact wpO.nil ⟨_, _, rfl, fun _ ht => by cases ht; exact ⟨rfl, .refl _⟩⟩
                  exact .nil
                exact ⟨(!z77), _, _, S39, .refl _ _, .refl _, (WeakE.cons rfl (.refl _) (WeakE.cons rfl (.refl _) (WeakE.cons rfl (.refl _) WeakE.nil))), H40.sel [0, 1, 3] (by decide) rfl, h⟩
end
end Pr
end Go.Ev


namespace Go.Ev
namespace Pr
set_option linter.unusedVariables false
set_option linter.unusedSimpArgs false

/-! ### Laws of what the functions are made of -/
theorem w64 {n : Int} (h0 : -9223372036854775808 ≤ n) (h1 : n ≤ 9223372036854775807) : IntKind.wrap .i64 n = n := Go.IntWalk.i64_in n ⟨h0, h1⟩
theorem idx_nat {α : Type} (l : List α) (i : Nat) : idx l (i : Int) = l[i]? := by
  unfold idx
  rw [if_pos (by omega)]
  simp
theorem idx_mid {α : Type} {l done rest : List α} {z : α} (h : l = done ++ z :: rest) : idx l (done.length : Int) = some z := by
  rw [idx_nat, h]; simp
theorem idx_in {α : Type} (l : List α) {i : Int} (h0 : 0 ≤ i) (h1 : i < l.length) : ∃ x, idx l i = some x ∧ x ∈ l ∧ l[i.toNat]? = some x := by
  obtain ⟨j, rfl⟩ := Int.eq_ofNat_of_zero_le h0
  have hj : j < l.length := by omega
  exact ⟨l[j], by rw [idx_nat]; exact List.getElem?_eq_getElem hj, List.getElem_mem hj, by simp [hj]⟩
theorem app_ok {α : Type} {nb : Nat} {l ys : List α} (h : (l.length + ys.length) * nb ≤ bound) : app nb l ys = some (l ++ ys) := by
  unfold app; rw [if_pos h]
theorem remI_ok {k : IntKind} {a b : Int} (h : b ≠ 0) : remI k a b = some (a.tmod b) := by
  unfold remI; rw [if_neg h]
theorem bnd : bound = 70368744177664 := rfl
end Pr
end Go.Ev


namespace Go.Ev
namespace Pr
set_option linter.unusedVariables false
set_option linter.unusedSimpArgs false

mutual
def tcnt : Tree → Nat
  | .mk _ _ _ _ ks => 1 + lcnt ks
def lcnt : List Tree → Nat
  | [] => 0
  | t :: l => tcnt t + lcnt l
end
mutual
def tdep : Tree → Nat
  | .mk _ _ _ _ ks => 1 + ldep ks
def ldep : List Tree → Nat
  | [] => 0
  | t :: l => max (tdep t) (ldep l)
end
def isOut (s : Str) : Nat := if s = [111, 117, 116, 108, 101, 116] then 1 else 0
mutual
def tslo : Tree → Nat
  | .mk g _ _ _ ks => isOut g + lslo ks
def lslo : List Tree → Nat
  | [] => 0
  | t :: l => tslo t + lslo l
end
theorem tcnt_kids (t : Tree) : tcnt t = 1 + lcnt t.Kids := by cases t; rw [tcnt]; rfl
theorem tdep_kids (t : Tree) : tdep t = 1 + ldep t.Kids := by cases t; rw [tdep]; rfl
theorem tslo_kids (t : Tree) : tslo t = isOut t.Tag + lslo t.Kids := by cases t; rw [tslo]; rfl
theorem lcnt_len : ∀ (l : List Tree), l.length ≤ lcnt l
  | [] => Nat.le_refl _
  | x :: l => by
    have := lcnt_len l
    have := tcnt_kids x
    simp only [List.length_cons, lcnt]; omega
theorem lcnt_mem : ∀ {l : List Tree} {z : Tree}, z ∈ l → tcnt z ≤ lcnt l
  | x :: l, z, h => by
    rcases List.mem_cons.1 h with rfl | h
    · simp only [lcnt]; omega
    · have := lcnt_mem h
      simp only [lcnt]; omega
theorem lcnt_mem' {t z : Tree} (h : z ∈ t.Kids) : tcnt z < tcnt t := by
  have := lcnt_mem h
  have := tcnt_kids t; omega
theorem ldep_le : ∀ (l : List Tree), ldep l ≤ lcnt l ∧ ∀ z ∈ l, tdep z ≤ ldep l
  | [] => ⟨Nat.le_refl _, fun z h => by cases h⟩
  | x :: l => by
    obtain ⟨h1, h2⟩ := ldep_le l
    have hx : tdep x ≤ tcnt x := by
      cases x with
      | mk a b c d ks =>
        have := (ldep_le ks).1
        rw [tdep, tcnt]; omega
    refine ⟨by simp only [ldep, lcnt]; omega, fun z h => ?_⟩
    rcases List.mem_cons.1 h with rfl | h
    · simp only [ldep]; omega
    · have := h2 z h
      simp only [ldep]; omega
theorem lslo_le : ∀ (l : List Tree), lslo l ≤ lcnt l
  | [] => Nat.le_refl _
  | x :: l => by
    have h1 := lslo_le l
    have hx : tslo x ≤ tcnt x := by
      cases x with
      | mk a b c d ks =>
        have := lslo_le ks
        rw [tslo, tcnt]
        unfold isOut; split <;> omega
    simp only [lslo, lcnt]; omega

/-- What is done for each kid, by the function itself. -/
theorem kids_of {t : Tree} {m : Nat} {α : Type} {f : Nat → Tree → Option α} {g : Tree → α} (ht : tcnt t ≤ m + 1) (ih : ∀ z, tcnt z ≤ m → ∀ n, m < n → f n z = some (g z)) {n : Nat} (hn : m < n) : ∀ z ∈ t.Kids, f n z = some (g z) :=
  fun z hz => ih z (by have := lcnt_mem' hz; omega) n hn

theorem count_loop (self : Tree → Option Int) (t : Tree) (hs : ∀ z ∈ t.Kids, self z = some (tcnt z : Int)) (hb : lcnt t.Kids < 1000000000) : ∀ (rest done : List Tree) (k : Nat) (acc : Int), t.Kids = done ++ rest → rest.length < k → 0 ≤ acc → acc + lcnt rest < 2000000000 →
    shape_Count_l15 self t k acc (done.length : Int) = some (acc + lcnt rest)
  | [], done, k + 1, acc, hk, _, h0, h1 => by
    rw [shape_Count_l15, if_neg (by rw [hk]; simp)]
    simp [lcnt]
  | z :: rest, done, k + 1, acc, hk, hl, h0, h1 => by
    have hlen := lcnt_len t.Kids
    have hkl : t.Kids.length = done.length + rest.length + 1 := by rw [hk]; simp; omega
    have hz : z ∈ t.Kids := by rw [hk]; simp
    simp only [lcnt] at h1
    rw [shape_Count_l15, if_pos (by rw [decide_eq_true_eq, hkl]; omega), idx_mid hk, Option.bind_some, hs z hz, Option.bind_some]
    rw [w64 (by omega) (by omega), w64 (by omega) (by omega)]
    have := count_loop self t hs hb rest (done ++ [z]) k (acc + tcnt z) (by rw [hk]; simp) (by simp at hl; omega) (by omega) (by omega)
    rw [List.length_append, List.length_singleton] at this
    push_cast at this
    rw [this, lcnt]
    congr 1
    push_cast; omega

theorem count_ok : ∀ (m : Nat) (t : Tree), tcnt t ≤ m → m < 1000000000 → ∀ n, m < n → shape_Count n t = some (tcnt t : Int)
  | 0, t, h, _, n, _ => by rw [tcnt_kids] at h; omega
  | m + 1, t, h, hm, n + 1, hn => by
    have hs := kids_of (f := shape_Count) (g := fun z => (tcnt z : Int)) h (fun z hz n hn => count_ok m z hz (by omega) n hn) (show m < n by omega)
    have hk := tcnt_kids t
    have hlen := lcnt_len t.Kids
    rw [shape_Count]
    have := count_loop (shape_Count n) t hs (by omega) t.Kids [] n 1 rfl (by omega) (by omega) (by omega)
    simp only [List.length_nil] at this
    rw [show ((0 : Nat) : Int) = 0 from rfl] at this
    rw [this, hk]; push_cast; rfl

theorem deep_loop (self : Tree → Option Int) (t : Tree) (hs : ∀ z ∈ t.Kids, self z = some (tdep z : Int)) (hb : lcnt t.Kids < 1000000000) : ∀ (rest done : List Tree) (k : Nat) (acc : Nat), t.Kids = done ++ rest → rest.length < k → acc < 1000000000 →
    shape_Deep_l15 self t k (acc : Int) (done.length : Int) = some ((max acc (ldep rest) + 1 : Nat) : Int)
  | [], done, k + 1, acc, hk, _, h1 => by
    rw [shape_Deep_l15, if_neg (by rw [hk]; simp), w64 (by omega) (by omega)]
    simp [ldep]
  | z :: rest, done, k + 1, acc, hk, hl, h1 => by
    have hlen := lcnt_len t.Kids
    have hkl : t.Kids.length = done.length + rest.length + 1 := by rw [hk]; simp; omega
    have hz : z ∈ t.Kids := by rw [hk]; simp
    have hd := (ldep_le t.Kids).2 z hz
    have hd2 := (ldep_le t.Kids).1
    rw [shape_Deep_l15, if_pos (by rw [decide_eq_true_eq, hkl]; omega), idx_mid hk, Option.bind_some, hs z hz, Option.bind_some]
    rw [w64 (by omega) (by omega)]
    have hm : maxI (acc : Int) (tdep z : Int) = ((max acc (tdep z) : Nat) : Int) := by
      unfold maxI; split <;> omega
    have := deep_loop self t hs hb rest (done ++ [z]) k (max acc (tdep z)) (by rw [hk]; simp) (by simp at hl; omega) (by omega)
    rw [List.length_append, List.length_singleton] at this
    rw [hm]
    push_cast at this ⊢
    rw [this, ldep]
    congr 1
    omega
theorem deep_ok : ∀ (m : Nat) (t : Tree), tcnt t ≤ m → m < 1000000000 → ∀ n, m < n → shape_Deep n t = some (tdep t : Int)
  | 0, t, h, _, n, _ => by rw [tcnt_kids] at h; omega
  | m + 1, t, h, hm, n + 1, hn => by
    have hs := kids_of (f := shape_Deep) (g := fun z => (tdep z : Int)) h (fun z hz n hn => deep_ok m z hz (by omega) n hn) (show m < n by omega)
    have hk := tcnt_kids t
    have hlen := lcnt_len t.Kids
    rw [shape_Deep]
    have := deep_loop (shape_Deep n) t hs (by omega) t.Kids [] n 0 rfl (by omega) (by omega)
    simp only [List.length_nil] at this
    rw [show ((0 : Nat) : Int) = 0 from rfl] at this
    rw [this, tdep_kids]; congr 1; push_cast; omega

theorem slots_loop (self : Tree → Option Int) (t : Tree) (hs : ∀ z ∈ t.Kids, self z = some (tslo z : Int)) (hb : lcnt t.Kids < 1000000000) : ∀ (rest done : List Tree) (k : Nat) (acc : Int), t.Kids = done ++ rest → rest.length < k → 0 ≤ acc → acc + lcnt rest < 2000000000 →
    shape_Slots_l19 self t k acc (done.length : Int) = some (acc + lslo rest)
  | [], done, k + 1, acc, hk, _, h0, h1 => by
    rw [shape_Slots_l19, if_neg (by rw [hk]; simp)]
    simp [lslo]
  | z :: rest, done, k + 1, acc, hk, hl, h0, h1 => by
    have hlen := lcnt_len t.Kids
    have hkl : t.Kids.length = done.length + rest.length + 1 := by rw [hk]; simp; omega
    have hz : z ∈ t.Kids := by rw [hk]; simp
    have hzs : tslo z ≤ tcnt z := by have := lslo_le [z]; simpa [lslo, lcnt] using this
    simp only [lcnt] at h1
    rw [shape_Slots_l19, if_pos (by rw [decide_eq_true_eq, hkl]; omega), idx_mid hk, Option.bind_some, hs z hz, Option.bind_some]
    rw [w64 (by omega) (by omega), w64 (by omega) (by omega)]
    have := slots_loop self t hs hb rest (done ++ [z]) k (acc + tslo z) (by rw [hk]; simp) (by simp at hl; omega) (by omega) (by omega)
    rw [List.length_append, List.length_singleton] at this
    push_cast at this
    rw [this, lslo]
    congr 1
    push_cast; omega
theorem slots_ok : ∀ (m : Nat) (t : Tree), tcnt t ≤ m → m < 1000000000 → ∀ n, m < n → shape_Slots n t = some (tslo t : Int)
  | 0, t, h, _, n, _ => by rw [tcnt_kids] at h; omega
  | m + 1, t, h, hm, n + 1, hn => by
    have hs := kids_of (f := shape_Slots) (g := fun z => (tslo z : Int)) h (fun z hz n hn => slots_ok m z hz (by omega) n hn) (show m < n by omega)
    have hk := tcnt_kids t
    have hlen := lcnt_len t.Kids
    rw [shape_Slots, tslo_kids]
    unfold shape_Slots_j8 isOut
    by_cases ho : t.Tag = [111, 117, 116, 108, 101, 116]
    · rw [if_pos (by simpa using ho), if_pos ho]
      have := slots_loop (shape_Slots n) t hs (by omega) t.Kids [] n 1 rfl (by omega) (by omega) (by omega)
      simp only [List.length_nil] at this
      rw [show ((0 : Nat) : Int) = 0 from rfl] at this
      rw [this]; push_cast; rfl
    · rw [if_neg (by simpa using ho), if_neg ho]
      have := slots_loop (shape_Slots n) t hs (by omega) t.Kids [] n 0 rfl (by omega) (by omega) (by omega)
      simp only [List.length_nil] at this
      rw [show ((0 : Nat) : Int) = 0 from rfl] at this
      rw [this]; push_cast; rfl
end Pr
end Go.Ev


namespace Go.Ev
namespace Pr
set_option linter.unusedVariables false
set_option linter.unusedSimpArgs false

/-- Nodes and attributes. -/
def tsz : Tree → Nat
  | .mk _ _ _ ats ks => 1 + ats.length + lsz ks
  where lsz : List Tree → Nat
  | [] => 0
  | t :: l => tsz t + lsz l
theorem tsz_kids (t : Tree) : tsz t = 1 + t.Attrs.length + tsz.lsz t.Kids := by cases t; rw [tsz]; rfl
theorem lsz_mem : ∀ {l : List Tree} {z : Tree}, z ∈ l → tsz z ≤ tsz.lsz l
  | x :: l, z, h => by
    rcases List.mem_cons.1 h with rfl | h
    · simp only [tsz.lsz]; omega
    · have := lsz_mem h
      simp only [tsz.lsz]; omega
theorem lsz_len : ∀ (l : List Tree), l.length ≤ tsz.lsz l
  | [] => Nat.zero_le _
  | x :: l => by
    have := lsz_len l
    have := tsz_kids x
    simp only [List.length_cons, tsz.lsz]; omega
theorem lsz_mem' {t z : Tree} (h : z ∈ t.Kids) : tsz z < tsz t := by
  have := lsz_mem h
  have := tsz_kids t; omega
theorem tree_eta (t : Tree) : Tree.mk t.Tag t.Key t.Text t.Attrs t.Kids = t := by cases t; rfl

/-! ### A copy -/
theorem set_self {α : Type} {l : List α} {i : Int} {z : α} (h : idx l i = some z) : setI l i z = l := by
  obtain ⟨h0, h1⟩ := idx_some h
  unfold setI
  apply List.ext_getElem?
  intro j
  rw [List.getElem?_set]
  by_cases hj : i.toNat = j
  · subst hj
    have hlt := (List.getElem?_eq_some_iff.1 h1).1
    simp [hlt, h1]
    exact ((List.getElem?_eq_some_iff.1 h1).2).symm
  · simp [hj]
theorem copy_loop (self : Tree → Option Tree) (t : Tree) (ats : List Attr) (hs : ∀ z ∈ t.Kids, self z = some z) (hb : t.Kids.length < 1000000000) : ∀ (rest done : List Tree) (k : Nat), t.Kids = done ++ rest → rest.length < k →
    shape_Copy_l29 self t ats t.Kids k t.Kids (done.length : Int) = some (Tree.mk t.Tag t.Key t.Text ats t.Kids)
  | [], done, k + 1, hk, _ => by
    rw [shape_Copy_l29, if_neg (by rw [hk]; simp)]
  | z :: rest, done, k + 1, hk, hl => by
    have hkl : t.Kids.length = done.length + rest.length + 1 := by rw [hk]; simp; omega
    have hz : z ∈ t.Kids := by rw [hk]; simp
    rw [shape_Copy_l29, if_pos (by rw [decide_eq_true_eq, hkl]; omega), idx_mid hk, Option.bind_some, hs z hz, Option.bind_some, Option.bind_some]
    rw [w64 (by omega) (by omega), set_self (idx_mid hk)]
    have := copy_loop self t ats hs hb rest (done ++ [z]) k (by rw [hk]; simp) (by simp at hl; omega)
    rw [List.length_append, List.length_singleton] at this
    push_cast at this
    exact this
theorem copy_ok : ∀ (m : Nat) (t : Tree), tsz t ≤ m → m < 1000000 → ∀ n, m < n → shape_Copy n t = some t
  | 0, t, h, _, n, _ => by rw [tsz_kids] at h; omega
  | m + 1, t, h, hm, n + 1, hn => by
    have hs : ∀ z ∈ t.Kids, shape_Copy n z = some z := fun z hz => copy_ok m z (by have := lsz_mem' hz; omega) (by omega) n (by omega)
    have hk := tsz_kids t
    have hlen := lsz_len t.Kids
    rw [shape_Copy]
    unfold slices_Clone__api_Attr_api_Attr_ slices_Clone__api_Tree_api_Tree_
    rw [app_ok (by rw [bnd]; simp only [List.length_nil]; omega), Option.bind_some, app_ok (by rw [bnd]; simp only [List.length_nil]; omega), Option.bind_some, List.nil_append, List.nil_append]
    have := copy_loop (shape_Copy n) t t.Attrs hs (by omega) t.Kids [] n rfl (by omega)
    simp only [List.length_nil] at this
    rw [show ((0 : Nat) : Int) = 0 from rfl] at this
    rw [this, tree_eta]

/-! ### Are they the same? -/
def abeq : List Attr → List Attr → Bool
  | [], [] => true
  | a :: l, b :: m => Attr.beq a b && abeq l m
  | _, _ => false
def tbeq : Tree → Tree → Bool
  | .mk a b c d e, .mk a' b' c' d' e' => (a == a') && (b == b') && (c == c') && abeq d d' && lbeq e e'
  where lbeq : List Tree → List Tree → Bool
  | [], [] => true
  | x :: l, y :: m => tbeq x y && lbeq l m
  | _, _ => false
theorem abeq_len : ∀ {a b : List Attr}, abeq a b = true → a.length = b.length
  | [], [], _ => rfl
  | x :: l, y :: m, h => by
    simp only [abeq, Bool.and_eq_true] at h
    simp [abeq_len h.2]
  | [], _ :: _, h => by cases h
  | _ :: _, [], h => by cases h
theorem lbeq_len : ∀ {a b : List Tree}, tbeq.lbeq a b = true → a.length = b.length
  | [], [], _ => rfl
  | x :: l, y :: m, h => by
    simp only [tbeq.lbeq, Bool.and_eq_true] at h
    simp [lbeq_len h.2]
  | [], _ :: _, h => by cases h
  | _ :: _, [], h => by cases h
theorem abeq_ne {a b : List Attr} (h : a.length ≠ b.length) : abeq a b = false := by
  cases hq : abeq a b
  · rfl
  · exact absurd (abeq_len hq) h
theorem lbeq_ne {a b : List Tree} (h : a.length ≠ b.length) : tbeq.lbeq a b = false := by
  cases hq : tbeq.lbeq a b
  · rfl
  · exact absurd (lbeq_len hq) h
theorem tbeq_eq (a b : Tree) : tbeq a b = ((a.Tag == b.Tag) && (a.Key == b.Key) && (a.Text == b.Text) && abeq a.Attrs b.Attrs && tbeq.lbeq a.Kids b.Kids) := by cases a; cases b; rw [tbeq]; rfl

theorem equal_loop (l m : List Attr) (hb : l.length < 1000000000) : ∀ (r s d e : List Attr) (k : Nat), l = d ++ r → m = e ++ s → d.length = e.length → r.length = s.length → r.length < k →
    slices_Equal__api_Attr_api_Attr__l12 l m k (d.length : Int) = some (abeq r s)
  | [], [], d, e, k + 1, hl, hm, _, _, _ => by
    rw [slices_Equal__api_Attr_api_Attr__l12, if_neg (by rw [hl]; simp)]; rfl
  | z :: r, y :: s, d, e, k + 1, hl, hm, hd, hr, hk => by
    have hkl : l.length = d.length + r.length + 1 := by rw [hl]; simp; omega
    rw [slices_Equal__api_Attr_api_Attr__l12, if_pos (by rw [decide_eq_true_eq, hkl]; omega), idx_mid hl, Option.bind_some, hd, idx_mid hm, Option.bind_some]
    cases hq : Attr.beq z y
    · simp [abeq, hq]
    · simp only [Bool.not_true, Bool.false_eq_true, if_false]
      rw [w64 (by omega) (by omega)]
      have := equal_loop l m hb r s (d ++ [z]) (e ++ [y]) k (by rw [hl]; simp) (by rw [hm]; simp) (by simp [hd]) (by simpa using hr) (by simp at hk; omega)
      rw [List.length_append, List.length_singleton, hd] at this
      push_cast at this
      rw [this]; simp [abeq, hq]
  | [], _ :: _, d, e, k + 1, _, _, _, hr, _ => by simp at hr
  | _ :: _, [], d, e, k + 1, _, _, _, hr, _ => by simp at hr
theorem equal_ok (n : Nat) (l m : List Attr) (hb : l.length < 1000000000) (hn : l.length < n) : slices_Equal__api_Attr_api_Attr_ n l m = some (abeq l m) := by
  unfold slices_Equal__api_Attr_api_Attr_
  by_cases h : l.length = m.length
  · rw [if_neg (by simp [h])]
    exact equal_loop l m hb l m [] [] n rfl rfl rfl h hn
  · rw [if_pos (by simp; omega), abeq_ne h]
theorem sameA_loop (l m : List Attr) (hb : l.length < 1000000000) : ∀ (r s d e : List Attr) (k : Nat), l = d ++ r → m = e ++ s → d.length = e.length → r.length = s.length → r.length < k →
    porticobook_Same_api_Attr_l12 l m k (d.length : Int) = some (abeq r s)
  | [], [], d, e, k + 1, hl, hm, _, _, _ => by
    rw [porticobook_Same_api_Attr_l12, if_neg (by rw [hl]; simp)]; rfl
  | z :: r, y :: s, d, e, k + 1, hl, hm, hd, hr, hk => by
    have hkl : l.length = d.length + r.length + 1 := by rw [hl]; simp; omega
    rw [porticobook_Same_api_Attr_l12, if_pos (by rw [decide_eq_true_eq, hkl]; omega), idx_mid hl, Option.bind_some, hd, idx_mid hm, Option.bind_some]
    cases hq : Attr.beq z y
    · simp [abeq, hq]
    · simp only [Bool.not_true, Bool.false_eq_true, if_false]
      rw [w64 (by omega) (by omega)]
      have := sameA_loop l m hb r s (d ++ [z]) (e ++ [y]) k (by rw [hl]; simp) (by rw [hm]; simp) (by simp [hd]) (by simpa using hr) (by simp at hk; omega)
      rw [List.length_append, List.length_singleton, hd] at this
      push_cast at this
      rw [this]; simp [abeq, hq]
  | [], _ :: _, d, e, k + 1, _, _, _, hr, _ => by simp at hr
  | _ :: _, [], d, e, k + 1, _, _, _, hr, _ => by simp at hr
theorem sameA_ok (n : Nat) (l m : List Attr) (hb : l.length < 1000000000) (hn : l.length < n) : porticobook_Same_api_Attr n l m = some (abeq l m) := by
  unfold porticobook_Same_api_Attr
  by_cases h : l.length = m.length
  · rw [if_neg (by simp [h])]
    exact sameA_loop l m hb l m [] [] n rfl rfl rfl h hn
  · rw [if_pos (by simp; omega), abeq_ne h]

theorem eqf_loop (f : Tree → Tree → Option Bool) (l m : List Tree) (hf : ∀ x ∈ l, ∀ y, f x y = some (tbeq x y)) (hb : l.length < 1000000000) : ∀ (r s d e : List Tree) (k : Nat), l = d ++ r → m = e ++ s → d.length = e.length → r.length = s.length → r.length < k →
    slices_EqualFunc__api_Tree__api_Tree_api_Tree_api_Tree__l15 l m f k (d.length : Int) = some (tbeq.lbeq r s)
  | [], [], d, e, k + 1, hl, hm, _, _, _ => by
    rw [slices_EqualFunc__api_Tree__api_Tree_api_Tree_api_Tree__l15, if_neg (by rw [hl]; simp)]; rfl
  | z :: r, y :: s, d, e, k + 1, hl, hm, hd, hr, hk => by
    have hkl : l.length = d.length + r.length + 1 := by rw [hl]; simp; omega
    rw [slices_EqualFunc__api_Tree__api_Tree_api_Tree_api_Tree__l15, if_pos (by rw [decide_eq_true_eq, hkl]; omega), idx_mid hl, Option.bind_some, hd, idx_mid hm, Option.bind_some, hf z (by rw [hl]; simp), Option.bind_some]
    cases hq : tbeq z y
    · simp [tbeq.lbeq, hq]
    · simp only [Bool.not_true, Bool.false_eq_true, if_false]
      rw [w64 (by omega) (by omega)]
      have := eqf_loop f l m hf hb r s (d ++ [z]) (e ++ [y]) k (by rw [hl]; simp) (by rw [hm]; simp) (by simp [hd]) (by simpa using hr) (by simp at hk; omega)
      rw [List.length_append, List.length_singleton, hd] at this
      push_cast at this
      rw [this]; simp [tbeq.lbeq, hq]
  | [], _ :: _, d, e, k + 1, _, _, _, hr, _ => by simp at hr
  | _ :: _, [], d, e, k + 1, _, _, _, hr, _ => by simp at hr
theorem same_ok : ∀ (m : Nat) (t u : Tree), tsz t ≤ m → m < 1000000 → ∀ n, m < n → shape_Same n t u = some (tbeq t u)
  | 0, t, u, h, _, n, _ => by rw [tsz_kids] at h; omega
  | m + 1, t, u, h, hm, n + 1, hn => by
    have hk := tsz_kids t
    have hlen := lsz_len t.Kids
    have hf : ∀ x ∈ t.Kids, ∀ y, shape_Same n x y = some (tbeq x y) := fun x hx y => same_ok m x y (by have := lsz_mem' hx; omega) (by omega) n (by omega)
    rw [shape_Same, tbeq_eq]
    cases h3 : ((t.Tag == u.Tag) && (t.Key == u.Key) && (t.Text == u.Text))
    · simp
    · simp only [if_true, Bool.true_and]
      rw [equal_ok n _ _ (by omega) (by omega), Option.bind_some, Option.bind_some]
      cases h4 : abeq t.Attrs u.Attrs
      · simp
      · simp only [if_true, Bool.true_and]
        unfold slices_EqualFunc__api_Tree__api_Tree_api_Tree_api_Tree_
        by_cases hl : t.Kids.length = u.Kids.length
        · rw [if_neg (by simp [hl])]
          have := eqf_loop (shape_Same n) t.Kids u.Kids hf (by omega) t.Kids u.Kids [] [] n rfl rfl rfl hl (by omega)
          simp only [List.length_nil] at this
          rw [show ((0 : Nat) : Int) = 0 from rfl] at this
          rw [this]; rfl
        · rw [if_pos (by simp; omega), lbeq_ne hl]; rfl
theorem trees_loop (f : Tree → Tree → Option Bool) (a b : Tree) (hf : ∀ x ∈ a.Kids, ∀ y, f x y = some (tbeq x y)) (hb : a.Kids.length < 1000000000) : ∀ (r s d e : List Tree) (k : Nat), a.Kids = d ++ r → b.Kids = e ++ s → d.length = e.length → r.length = s.length → r.length < k →
    porticokeep_Trees_l24 f a b k (d.length : Int) = some (tbeq.lbeq r s)
  | [], [], d, e, k + 1, hl, hm, _, _, _ => by
    rw [porticokeep_Trees_l24, if_neg (by rw [hl]; simp)]; rfl
  | z :: r, y :: s, d, e, k + 1, hl, hm, hd, hr, hk => by
    have hkl : a.Kids.length = d.length + r.length + 1 := by rw [hl]; simp; omega
    rw [porticokeep_Trees_l24, if_pos (by rw [decide_eq_true_eq, hkl]; omega), idx_mid hl, Option.bind_some, hd, idx_mid hm, Option.bind_some, hf z (by rw [hl]; simp), Option.bind_some]
    cases hq : tbeq z y
    · simp [tbeq.lbeq, hq]
    · simp only [Bool.not_true, Bool.false_eq_true, if_false]
      rw [w64 (by omega) (by omega)]
      have := trees_loop f a b hf hb r s (d ++ [z]) (e ++ [y]) k (by rw [hl]; simp) (by rw [hm]; simp) (by simp [hd]) (by simpa using hr) (by simp at hk; omega)
      rw [List.length_append, List.length_singleton, hd] at this
      push_cast at this
      rw [this]; simp [tbeq.lbeq, hq]
  | [], _ :: _, d, e, k + 1, _, _, _, hr, _ => by simp at hr
  | _ :: _, [], d, e, k + 1, _, _, _, hr, _ => by simp at hr
theorem trees_ok : ∀ (m : Nat) (t u : Tree), tsz t ≤ m → m < 1000000 → ∀ n, m < n → porticokeep_Trees n t u = some (tbeq t u)
  | 0, t, u, h, _, n, _ => by rw [tsz_kids] at h; omega
  | m + 1, t, u, h, hm, n + 1, hn => by
    have hk := tsz_kids t
    have hlen := lsz_len t.Kids
    have hf : ∀ x ∈ t.Kids, ∀ y, porticokeep_Trees n x y = some (tbeq x y) := fun x hx y => trees_ok m x y (by have := lsz_mem' hx; omega) (by omega) n (by omega)
    rw [porticokeep_Trees, tbeq_eq]
    cases h1 : (t.Tag == u.Tag) <;> cases h2 : (t.Key == u.Key) <;> cases h3 : (t.Text == u.Text) <;> simp only [Bool.not_true, Bool.not_false, Bool.or_self, Bool.or_true, Bool.true_or, Bool.or_false, if_true, Option.bind_some, Bool.false_eq_true, if_false, Bool.and_false, Bool.false_and, Bool.and_self, Bool.true_and]
    rw [sameA_ok n _ _ (by omega) (by omega), Option.bind_some, Option.bind_some]
    cases h4 : abeq t.Attrs u.Attrs
    · simp
    · simp only [Bool.not_true, Bool.false_or, Bool.true_and]
      by_cases hl : t.Kids.length = u.Kids.length
      · rw [if_neg (by simp [hl])]
        have := trees_loop (porticokeep_Trees n) t u hf (by omega) t.Kids u.Kids [] [] n rfl rfl rfl hl (by omega)
        simp only [List.length_nil] at this
        rw [show ((0 : Nat) : Int) = 0 from rfl] at this
        rw [this]
      · rw [if_pos (by simp; omega), lbeq_ne hl]
theorem attr_refl (a : Attr) : Attr.beq a a = true := by simp [Attr.beq]
theorem abeq_refl : ∀ (l : List Attr), abeq l l = true
  | [] => rfl
  | a :: l => by simp [abeq, attr_refl, abeq_refl l]
theorem tbeq_refl : ∀ (t : Tree), tbeq t t = true
  | .mk a b c d e => by
    rw [tbeq, abeq_refl]
    have := go e
    simp [this]
  where go : ∀ (l : List Tree), tbeq.lbeq l l = true
  | [] => rfl
  | x :: l => by rw [tbeq.lbeq, tbeq_refl x, go l]; rfl
end Pr
end Go.Ev


namespace Go.Ev
namespace Pr
set_option linter.unusedVariables false
set_option linter.unusedSimpArgs false

/-! ### Right trees -/
def letters : Str := [97, 98, 99, 100, 101, 102, 103, 104, 105, 106, 107, 108, 109, 110, 111, 112, 113, 114, 115, 116, 117, 118, 119, 120, 121, 122, 48, 49, 50, 51, 52, 53, 54, 55, 56, 57]
def tagOk (s : Str) : Bool := !(s == []) && decide (s.length ≤ 16) && (strings_Trim 0 s letters == some []) && !(s == [122, 122])
def attrsOk (l : List Attr) : Prop := l = [] ∨ ∃ a, l = [a] ∧ a.Name ≠ [] ∧ a.Name.length ≤ 64 ∧ a.Value.length ≤ 64
def nodeOk (t : Tree) : Prop := (t.Tag = [] ∧ t.Key = [] ∧ t.Attrs = [] ∧ t.Kids = [] ∧ t.Text.length ≤ 64) ∨ (tagOk t.Tag = true ∧ t.Text = [] ∧ t.Key.length ≤ 64 ∧ attrsOk t.Attrs ∧ t.Kids.length ≤ 24)
def tgood : Tree → Prop
  | .mk a b c d e => nodeOk (.mk a b c d e) ∧ lg e
  where lg : List Tree → Prop
  | [] => True
  | x :: l => tgood x ∧ lg l
theorem tgood_iff (t : Tree) : tgood t ↔ nodeOk t ∧ tgood.lg t.Kids := by cases t; rw [tgood]; rfl
theorem lg_mem : ∀ {l : List Tree}, tgood.lg l ↔ ∀ z ∈ l, tgood z
  | [] => ⟨fun _ z h => (by cases h), fun _ => trivial⟩
  | x :: l => by
    rw [tgood.lg, lg_mem]
    exact ⟨fun h z hz => by rcases List.mem_cons.1 hz with rfl | hz; exact h.1; exact h.2 z hz, fun h => ⟨h x List.mem_cons_self, fun z hz => h z (List.mem_cons_of_mem _ hz)⟩⟩
theorem tsz_le : ∀ (m : Nat) (t : Tree), tcnt t ≤ m → tgood t → tsz t ≤ 2 * tcnt t
  | 0, t, h, _ => by rw [tcnt_kids] at h; omega
  | m + 1, t, h, hg => by
    obtain ⟨h1, h2⟩ := (tgood_iff t).1 hg
    have hl : ∀ (l : List Tree), (∀ z ∈ l, z ∈ t.Kids) → tsz.lsz l ≤ 2 * lcnt l := by
      intro l
      induction l with
      | nil => intro _; simp [tsz.lsz, lcnt]
      | cons x l ih =>
        intro hm
        have hx := hm x List.mem_cons_self
        have := tsz_le m x (by have := lcnt_mem' hx; omega) (lg_mem.1 h2 x hx)
        have := ih (fun z hz => hm z (List.mem_cons_of_mem _ hz))
        simp only [tsz.lsz, lcnt]; omega
    have ha : t.Attrs.length ≤ 1 := by
      rcases h1 with h1 | h1
      · rw [h1.2.2.1]; simp
      · rcases h1.2.2.2.1 with h | ⟨a, h, _⟩ <;> rw [h] <;> simp
    have := hl t.Kids (fun z hz => hz)
    rw [tsz_kids, tcnt_kids]; omega

theorem element_ok (n : Nat) (hn : 5 ≤ n) (t : Tree) (h1 : tagOk t.Tag = true) (h2 : t.Text = []) (h3 : t.Key.length ≤ 64) (h4 : attrsOk t.Attrs) (h5 : t.Kids.length ≤ 24) : shape_element n t = some true := by
  simp only [tagOk, Bool.and_eq_true, Bool.not_eq_true', decide_eq_true_eq] at h1
  obtain ⟨⟨⟨g1, g2⟩, g3⟩, _⟩ := h1
  have g3 := eq_of_beq g3
  unfold shape_element
  rw [if_neg (by rw [decide_eq_true_eq]; omega)]
  have : strings_Trim n t.Tag [97, 98, 99, 100, 101, 102, 103, 104, 105, 106, 107, 108, 109, 110, 111, 112, 113, 114, 115, 116, 117, 118, 119, 120, 121, 122, 48, 49, 50, 51, 52, 53, 54, 55, 56, 57] = some [] := g3
  rw [this, Option.bind_some, Option.bind_some]
  rw [h2]
  rw [if_neg (by simp; omega)]
  obtain ⟨k, rfl⟩ : ∃ k, n = k + 5 := ⟨n - 5, by omega⟩
  rcases h4 with h | ⟨a, h, a1, a2, a3⟩
  · rw [shape_element_l20, if_neg (by rw [h]; simp)]
  · rw [shape_element_l20, if_pos (by rw [h]; simp)]
    have e0 : idx t.Attrs 0 = some a := by rw [h]; rfl
    have e1 : cut t.Attrs 0 0 = some [] := by rw [h]; rfl
    rw [e0, Option.bind_some, if_neg (by simp [a1]; omega), e1, Option.bind_some]
    have e2 : slices_ContainsFunc__api_Attr_api_Attr_ (k + 5) [] (fun y31 => shape_element_1 (k + 5) y31 a) = some false := by
      unfold slices_ContainsFunc__api_Attr_api_Attr_ slices_IndexFunc__api_Attr_api_Attr_
      rw [slices_IndexFunc__api_Attr_api_Attr__l13, if_neg (by simp)]; rfl
    rw [e2, Option.bind_some, Option.bind_some, if_neg (by simp)]
    rw [shape_element_l20, if_neg (by rw [h, w64 (by omega) (by omega)]; simp)]
theorem right_loop (f : Tree → Option Bool) (t : Tree) (hf : ∀ x ∈ t.Kids, f x = some true) (hb : t.Kids.length < 1000000000) : ∀ (r d : List Tree) (k : Nat), t.Kids = d ++ r → r.length < k →
    shape_right_l19 f t k (d.length : Int) = some true
  | [], d, k + 1, hl, _ => by rw [shape_right_l19, if_neg (by rw [hl]; simp)]
  | z :: r, d, k + 1, hl, hk => by
    have hkl : t.Kids.length = d.length + r.length + 1 := by rw [hl]; simp; omega
    rw [shape_right_l19, if_pos (by rw [decide_eq_true_eq, hkl]; omega), idx_mid hl, Option.bind_some, hf z (by rw [hl]; simp), Option.bind_some, if_neg (by simp)]
    rw [w64 (by omega) (by omega)]
    have := right_loop f t hf hb r (d ++ [z]) k (by rw [hl]; simp) (by simp at hk; omega)
    rw [List.length_append, List.length_singleton] at this
    push_cast at this
    exact this
theorem right_ok : ∀ (m : Nat) (t : Tree), tcnt t ≤ m → tgood t → m < 1000000 → ∀ n, m + 30 < n → shape_right n t = some true
  | 0, t, h, _, _, n, _ => by rw [tcnt_kids] at h; omega
  | m + 1, t, h, hg, hm, n + 1, hn => by
    obtain ⟨h1, h2⟩ := (tgood_iff t).1 hg
    have hf : ∀ x ∈ t.Kids, shape_right n x = some true := fun x hx => right_ok m x (by have := lcnt_mem' hx; omega) (lg_mem.1 h2 x hx) (by omega) n (by omega)
    rw [shape_right]
    rcases h1 with ⟨a1, a2, a3, a4, a5⟩ | ⟨a1, a2, a3, a4, a5⟩
    · rw [if_pos (by simp [a1]), a2, a3, a4]; simp; omega
    · have hne : t.Tag ≠ [] := fun q => by rw [q] at a1; simp [tagOk] at a1
      rw [if_neg (by simp [hne]), element_ok n (by omega) t a1 a2 a3 a4 a5, Option.bind_some, if_neg (by simp)]
      have := right_loop (shape_right n) t hf (by omega) t.Kids [] n rfl (by omega)
      simp only [List.length_nil] at this
      exact this
theorem Right_ok (n : Nat) (t : Tree) (hn : 200 < n) (hc : tcnt t ≤ 100) (hg : tgood t) : shape_Right n t = some (decide (tcnt t ≤ 60) && decide (tdep t ≤ 12)) := by
  unfold shape_Right
  rw [right_ok 100 t hc hg (by omega) n (by omega), Option.bind_some, if_pos rfl, count_ok 100 t hc (by omega) n (by omega), Option.bind_some, Option.bind_some]
  by_cases h1 : tcnt t ≤ 60
  · rw [if_pos (by rw [decide_eq_true_eq]; omega), deep_ok 100 t hc (by omega) n (by omega), Option.bind_some, Option.bind_some]
    by_cases h2 : tdep t ≤ 12
    · simp [h1, h2]; omega
    · simp [h1, h2]; omega
  · rw [if_neg (by rw [decide_eq_true_eq]; omega)]; simp [h1]

/-! ### Numbers brought into bounds -/
theorem within_ok (n : Nat) (a lo hi : Int) (h1 : lo ≤ hi) (h2 : -1000000000000 ≤ lo) (h3 : hi ≤ 1000000000000000) : ∃ r, porticobook_Within n a lo hi = some r ∧ lo ≤ r ∧ r ≤ hi := by
  unfold porticobook_Within
  rw [w64 (n := hi - lo) (by omega) (by omega), w64 (by omega) (by omega), remI_ok (by omega), Option.bind_some]
  have k1 := Int.tmod_lt_of_pos a (show 0 < hi - lo + 1 by omega)
  have k2 := Int.lt_tmod_of_pos a (show 0 < hi - lo + 1 by omega)
  unfold porticobook_Within_j8
  by_cases hz : a.tmod (hi - lo + 1) < 0
  · rw [if_pos (by simpa using hz)]
    rw [w64 (n := a.tmod (hi - lo + 1) + hi) (by omega) (by omega), w64 (n := a.tmod (hi - lo + 1) + hi - lo) (by omega) (by omega), w64 (n := a.tmod (hi - lo + 1) + hi - lo + 1) (by omega) (by omega), w64 (by omega) (by omega)]
    exact ⟨_, rfl, by omega, by omega⟩
  · rw [if_neg (by simpa using hz), w64 (by omega) (by omega)]
    exact ⟨_, rfl, by omega, by omega⟩
theorem pick_ok (n : Nat) (l : List Int) (i : Int) (h : 0 ≤ i) : ∃ r, porticokeep_pick n l i = some r := by
  unfold porticokeep_pick
  by_cases h0 : l.length = 0
  · rw [if_pos (by simp; exact List.eq_nil_of_length_eq_zero h0)]; exact ⟨_, rfl⟩
  · rw [if_neg (by simp; intro q; exact h0 (by rw [q]; rfl)), remI_ok (by omega), Option.bind_some]
    have hp : (0 : Int) < (l.length : Int) := by omega
    obtain ⟨x, hx, _⟩ := idx_in l (i := i.tmod l.length) (Int.tmod_nonneg _ h) (Int.tmod_lt_of_pos _ hp)
    exact ⟨x, by rw [hx]; rfl⟩
end Pr
end Go.Ev


namespace Go.Ev
namespace Pr
set_option linter.unusedVariables false
set_option linter.unusedSimpArgs false

/-! ### A tree out of a row of nodes -/
def n0ok (t : Tree0) : Prop := (t.Tag = [] ∧ t.Key = [] ∧ t.Attrs = [] ∧ t.Text.length ≤ 64) ∨ (tagOk t.Tag = true ∧ t.Text = [] ∧ t.Key.length ≤ 64 ∧ attrsOk t.Attrs)

/-- Nodes that stand below one another, each behind its parent; how deep each is. -/
structure Wd (nodes : List Tree0) (under : List Int) (lv : List Nat) : Prop where
  lu : under.length = nodes.length
  ll : lv.length = nodes.length
  pos : 0 < nodes.length
  le : nodes.length ≤ 13
  ok : ∀ (j : Nat) (t : Tree0), nodes[j]? = some t → n0ok t
  root : under[0]? = some (-1) ∧ lv[0]? = some 1
  par : ∀ (j : Nat), 0 < j → j < nodes.length → ∃ (p : Nat) (t : Tree0) (v : Nat), under[j]? = some (p : Int) ∧ p < j ∧ nodes[p]? = some t ∧ t.Tag ≠ [] ∧ lv[p]? = some v ∧ lv[j]? = some (v + 1)
  lim : ∀ (j v : Nat), lv[j]? = some v → v ≤ 7 ∧ 1 ≤ v

section
variable {nodes : List Tree0} {under : List Int} {lv : List Nat}

theorem deep_at (h : Wd nodes under lv) : ∀ (m j v : Nat), j ≤ m → lv[j]? = some v → ∀ (k : Nat) (acc : Int), v + 1 < k → 0 ≤ acc → acc + v ≤ 60 → porticokeep_deep_l13 under k (j : Int) acc = some (acc + v)
  | m, 0, v, _, hv, k + 2, acc, hk, h0, h1 => by
    have hr := h.root
    rw [hr.2] at hv; cases hv
    rw [porticokeep_deep_l13, if_pos (by simp; omega)]
    have : idx under ((0 : Nat) : Int) = some (-1) := by rw [idx_nat]; exact hr.1
    rw [this, Option.bind_some, w64 (by omega) (by omega), porticokeep_deep_l13, if_neg (by simp)]
    rfl
  | m + 1, j + 1, v, hj, hv, k + 1, acc, hk, h0, h1 => by
    have hjl : j + 1 < nodes.length := by
      have := (List.getElem?_eq_some_iff.1 hv).1
      rw [h.ll] at this; exact this
    obtain ⟨p, t, v', hu, hp, _, _, hvp, hvj⟩ := h.par (j + 1) (by omega) hjl
    rw [hv] at hvj; cases hvj
    have hl := (h.lim (j + 1) (v' + 1) hv).1
    rw [porticokeep_deep_l13, if_pos (by simp; omega)]
    have : idx under ((j + 1 : Nat) : Int) = some (p : Int) := by rw [idx_nat]; exact hu
    rw [this, Option.bind_some, w64 (by omega) (by omega)]
    rw [deep_at h m p v' (by omega) hvp k (acc + 1) (by omega) (by omega) (by omega)]
    congr 1
    push_cast; omega
  | m, 0, v, _, hv, 1, acc, hk, _, _ => by omega
theorem deep0_ok (h : Wd nodes under lv) (n : Nat) (hn : 20 < n) {j v : Nat} (hv : lv[j]? = some v) : porticokeep_deep n under (j : Int) = some (v : Int) := by
  have hl := (h.lim j v hv).1
  unfold porticokeep_deep
  rw [deep_at h j j v (Nat.le_refl _) hv n 0 (by omega) (by omega) (by omega)]
  simp

/-- The kids of a node, from a place on. -/
def kidsF (under : List Int) (at_ : Nat) (l : List Nat) : List Nat := l.filter fun j => under[j]? == some (at_ : Int)
def growP (nodes : List Tree0) (under : List Int) : Nat → Nat → Tree
  | 0, _ => .mk [] [] [] [] []
  | f + 1, j => match nodes[j]? with
    | some t => .mk t.Tag t.Key t.Text t.Attrs ((kidsF under j (List.range nodes.length)).map (growP nodes under f))
    | none => .mk [] [] [] [] []
theorem kids_gt (h : Wd nodes under lv) {j i : Nat} {l : List Nat} (hi : i ∈ kidsF under j l) : i < nodes.length ∧ j < i ∧ ∃ v, lv[j]? = some v ∧ lv[i]? = some (v + 1) ∧ ∃ t, nodes[j]? = some t ∧ t.Tag ≠ [] := by
  obtain ⟨_, h2⟩ := List.mem_filter.1 hi
  have h2 := eq_of_beq h2
  have hil : i < nodes.length := by rw [← h.lu]; exact (List.getElem?_eq_some_iff.1 h2).1
  cases i with
  | zero => rw [h.root.1] at h2; cases h2
  | succ i =>
    obtain ⟨p, t, v, hu, hp, ht, htg, hvp, hvj⟩ := h.par (i + 1) (by omega) hil
    rw [hu] at h2
    have : p = j := by have := Option.some.inj h2; omega
    subst this
    exact ⟨hil, hp, v, hvp, hvj, t, ht, htg⟩
theorem growP_st (h : Wd nodes under lv) : ∀ (f g j : Nat), j < nodes.length → nodes.length ≤ j + f → nodes.length ≤ j + g → growP nodes under f j = growP nodes under g j
  | 0, g, j, hj, hf, _ => by omega
  | f + 1, 0, j, hj, _, hg => by omega
  | f + 1, g + 1, j, hj, hf, hg => by
    rw [growP, growP]
    split
    · congr 1
      apply List.map_congr_left
      intro i hi
      obtain ⟨h1, h2, _⟩ := kids_gt h hi
      exact growP_st h f g i h1 (by omega) (by omega)
    · rfl
def gt (nodes : List Tree0) (under : List Int) (j : Nat) : Tree := growP nodes under (nodes.length + 1) j
theorem gt_eq (h : Wd nodes under lv) {j : Nat} {t : Tree0} (ht : nodes[j]? = some t) : gt nodes under j = .mk t.Tag t.Key t.Text t.Attrs ((kidsF under j (List.range nodes.length)).map (gt nodes under)) := by
  unfold gt
  rw [growP]
  simp only [ht]
  congr 1
  apply List.map_congr_left
  intro i hi
  obtain ⟨h1, h2, _⟩ := kids_gt h hi
  exact growP_st h _ _ i h1 (by omega) (by omega)

theorem grow_loop (h : Wd nodes under lv) (self : List Tree0 → List Int → Int → Option Tree) (j : Nat) (z : Tree0) (hs : ∀ i, i < nodes.length → j < i → self nodes under (i : Int) = some (gt nodes under i)) : ∀ (m i k : Nat) (acc : List Tree), nodes.length = i + m → m < k → acc.length ≤ i →
    porticokeep_grow_l25 self nodes under (j : Int) z k acc (i : Int) = some (.mk z.Tag z.Key z.Text z.Attrs (acc ++ (kidsF under j (List.range' i m)).map (gt nodes under)))
  | 0, i, k + 1, acc, hm, _, _ => by
    rw [porticokeep_grow_l25, if_neg (by rw [hm]; simp)]
    simp [kidsF]
  | m + 1, i, k + 1, acc, hm, hk, ha => by
    have hle := h.le
    have hil : i < under.length := by rw [h.lu]; omega
    rw [porticokeep_grow_l25, if_pos (by rw [hm]; simp; omega), idx_nat, List.getElem?_eq_getElem hil, Option.bind_some]
    rw [List.range'_succ]
    by_cases hu : under[i] = (j : Int)
    · have hin : i ∈ kidsF under j [i] := by simp [kidsF, hil, hu]
      obtain ⟨g1, g2, _⟩ := kids_gt h hin
      rw [if_pos (by simpa using hu), hs i g1 g2, Option.bind_some, app_ok (by rw [bnd]; simp; omega), Option.bind_some]
      unfold porticokeep_grow_j31
      rw [w64 (by omega) (by omega)]
      have := grow_loop h self j z hs m (i + 1) k (acc ++ [gt nodes under i]) (by omega) (by omega) (by simp; omega)
      push_cast at this
      rw [this]
      have : kidsF under j (i :: List.range' (i + 1) m) = i :: kidsF under j (List.range' (i + 1) m) := by
        unfold kidsF; rw [List.filter_cons, if_pos (by simp [hil, hu])]
      rw [this]; simp
    · rw [if_neg (by simpa using hu)]
      unfold porticokeep_grow_j31
      rw [w64 (by omega) (by omega)]
      have := grow_loop h self j z hs m (i + 1) k acc (by omega) (by omega) (by omega)
      push_cast at this
      rw [this]
      have : kidsF under j (i :: List.range' (i + 1) m) = kidsF under j (List.range' (i + 1) m) := by
        unfold kidsF; rw [List.filter_cons, if_neg (by simp [hil, hu])]
      rw [this]
theorem grow_ok (h : Wd nodes under lv) : ∀ (n j : Nat), j < nodes.length → 2 * nodes.length + 2 ≤ j + n → porticokeep_grow n nodes under (j : Int) = some (gt nodes under j)
  | 0, j, hj, hn => by omega
  | n + 1, j, hj, hn => by
    rw [porticokeep_grow, idx_nat, List.getElem?_eq_getElem hj, Option.bind_some]
    have := grow_loop h (porticokeep_grow n) j nodes[j] (fun i hi hji => grow_ok h n i hi (by omega)) nodes.length 0 n [] (by omega) (by omega) (by simp)
    rw [show ((0 : Nat) : Int) = 0 from rfl] at this
    rw [this, gt_eq h (List.getElem?_eq_getElem hj), List.range_eq_range']
    rfl

/-! #### .. its depth, its size -/
theorem gt_good (h : Wd nodes under lv) : ∀ (m j v : Nat), nodes.length ≤ j + m → lv[j]? = some v → tgood (gt nodes under j) ∧ tdep (gt nodes under j) + v ≤ 8
  | 0, j, v, hm, hv => by
    have := (List.getElem?_eq_some_iff.1 hv).1
    rw [h.ll] at this; omega
  | m + 1, j, v, hm, hv => by
    have hj : j < nodes.length := by rw [← h.ll]; exact (List.getElem?_eq_some_iff.1 hv).1
    have ht := List.getElem?_eq_getElem hj
    have hv7 := h.lim j v hv
    rw [gt_eq h ht]
    have hk : ∀ i ∈ kidsF under j (List.range nodes.length), tgood (gt nodes under i) ∧ tdep (gt nodes under i) + (v + 1) ≤ 8 := fun i hi => by
      obtain ⟨g1, g2, v', g3, g4, _⟩ := kids_gt h hi
      rw [hv] at g3; cases g3
      exact gt_good h m i (v + 1) (by omega) g4
    have hlen : (kidsF under j (List.range nodes.length)).length ≤ 13 := by
      have := List.length_filter_le (fun i => under[i]? == some (j : Int)) (List.range nodes.length)
      rw [List.length_range] at this
      have := h.le
      unfold kidsF; omega
    refine ⟨(tgood_iff _).2 ⟨?_, ?_⟩, ?_⟩
    · rcases h.ok j _ ht with ⟨a1, a2, a3, a4⟩ | ⟨a1, a2, a3, a4⟩
      · refine .inl ⟨a1, a2, a3, ?_, a4⟩
        show List.map _ _ = []
        rw [List.map_eq_nil_iff]
        cases hq : kidsF under j (List.range nodes.length) with
        | nil => rfl
        | cons i l =>
          obtain ⟨_, _, _, _, _, t, q1, q2⟩ := kids_gt h (l := List.range nodes.length) (i := i) (j := j) (by rw [hq]; simp)
          rw [ht] at q1; cases q1
          exact absurd a1 q2
      · refine .inr ⟨a1, a2, a3, a4, ?_⟩
        show (List.map _ _).length ≤ 24
        rw [List.length_map]; omega
    · show tgood.lg (List.map _ _)
      rw [lg_mem]
      intro z hz
      obtain ⟨i, hi, rfl⟩ := List.mem_map.1 hz
      exact (hk i hi).1
    · rw [tdep]
      have : ∀ (l : List Nat), (∀ i ∈ l, tdep (gt nodes under i) + (v + 1) ≤ 8) → ldep (l.map (gt nodes under)) + (v + 1) ≤ 8 := by
        intro l
        induction l with
        | nil => intro _; simp only [List.map_nil, ldep]; omega
        | cons i l ih =>
          intro hl
          have h1 := hl i List.mem_cons_self
          have h2 := ih (fun i hi => hl i (List.mem_cons_of_mem _ hi))
          simp only [List.map_cons, ldep]; omega
      have := this _ (fun i hi => (hk i hi).2)
      omega

def sumIf (p : Nat → Bool) (f : Nat → Nat) : List Nat → Nat
  | [] => 0
  | i :: l => (if p i then f i else 0) + sumIf p f l
theorem sumIf_kids (f : Nat → Tree) (p : Nat → Bool) : ∀ (l : List Nat), lcnt ((l.filter p).map f) = sumIf p (fun i => tcnt (f i)) l
  | [] => rfl
  | i :: l => by
    rw [List.filter_cons, sumIf]
    by_cases h : p i = true
    · rw [if_pos h, if_pos h, List.map_cons, lcnt, sumIf_kids f p l]
    · rw [if_neg h, if_neg h, sumIf_kids f p l]; omega
theorem sumIf_split (f : Nat → Nat) (p q r : Nat → Bool) : ∀ (l : List Nat), (∀ i ∈ l, p i = (q i || r i) ∧ (q i && r i) = false) → sumIf p f l = sumIf q f l + sumIf r f l
  | [], _ => rfl
  | i :: l, h => by
    obtain ⟨h1, h2⟩ := h i List.mem_cons_self
    have ih := sumIf_split f p q r l (fun i hi => h i (List.mem_cons_of_mem _ hi))
    rw [sumIf, sumIf, sumIf, h1, ih]
    cases hq : q i <;> cases hr : r i <;> simp_all <;> omega
theorem sumIf_none (f : Nat → Nat) (p : Nat → Bool) : ∀ (l : List Nat), (∀ i ∈ l, p i = false) → sumIf p f l = 0
  | [], _ => rfl
  | i :: l, h => by
    rw [sumIf, h i List.mem_cons_self, sumIf_none f p l (fun i hi => h i (List.mem_cons_of_mem _ hi))]; simp
theorem sumIf_app (f : Nat → Nat) (p : Nat → Bool) : ∀ (l m : List Nat), sumIf p f (l ++ m) = sumIf p f l + sumIf p f m
  | [], m => by simp [sumIf]
  | i :: l, m => by rw [List.cons_append, sumIf, sumIf, sumIf_app f p l m]; omega
def ahead (under : List Int) (m : Nat) (j : Nat) : Bool := match under[j]? with
  | some u => decide (u < (m : Int))
  | none => false
theorem forest (h : Wd nodes under lv) : ∀ (d m : Nat), m + d = nodes.length → sumIf (ahead under m) (fun i => tcnt (gt nodes under i)) (List.range' m d) = d
  | 0, m, _ => rfl
  | d + 1, m, hm => by
    have ih := forest h d (m + 1) (by omega)
    have hml : m < nodes.length := by omega
    have hmu : m < under.length := by rw [h.lu]; exact hml
    rw [List.range'_succ, sumIf]
    have hself : ahead under m m = true := by
      unfold ahead
      cases m with
      | zero => rw [h.root.1]; rfl
      | succ m =>
        obtain ⟨p, _, _, hu, hp, _⟩ := h.par (m + 1) (by omega) hml
        rw [hu]; simp; omega
    rw [if_pos hself, gt_eq h (List.getElem?_eq_getElem hml), tcnt]
    unfold kidsF
    rw [sumIf_kids]
    have hr : List.range nodes.length = List.range' 0 (m + 1) ++ List.range' (m + 1) d := by
      have hq := List.range'_append_1 (s := 0) (m := m + 1) (n := d)
      rw [Nat.zero_add] at hq
      rw [List.range_eq_range', hq]
      congr 1; omega
    rw [hr, sumIf_app, sumIf_none _ _ (List.range' 0 (m + 1)) (fun i hi => ?_)]
    · have hsp := sumIf_split (fun i => tcnt (gt nodes under i)) (ahead under (m + 1)) (ahead under m) (fun j => under[j]? == some (m : Int)) (List.range' (m + 1) d) (fun i hi => ?_)
      · rw [hsp] at ih
        omega
      · have hil : i < under.length := by
          have := List.mem_range'_1.1 hi
          rw [h.lu]; omega
        unfold ahead
        rw [List.getElem?_eq_getElem hil]
        generalize under[i] = u
        simp only
        rcases Int.lt_trichotomy u (m : Int) with q | q | q
        · have q1 : u < ((m + 1 : Nat) : Int) := by omega
          have q2 : u ≠ (m : Int) := by omega
          simp only [q, q1, decide_true, Bool.true_or, Bool.true_and, true_and]
          simpa using q2
        · subst q
          have q1 : (m : Int) < ((m + 1 : Nat) : Int) := by omega
          have q2 : ¬ (m : Int) < (m : Int) := by omega
          simp only [q1, q2, decide_true, decide_false, Bool.false_or, Bool.false_and, and_true, beq_self_eq_true]
        · have q1 : ¬ u < ((m + 1 : Nat) : Int) := by omega
          have q2 : ¬ u < (m : Int) := by omega
          have q3 : u ≠ (m : Int) := by omega
          simp only [q1, q2, decide_false, Bool.false_or, Bool.false_and, and_true]
          symm; simpa using q3
    · cases hc : under[i]? == some (m : Int) with
      | false => rfl
      | true =>
        have him := List.mem_range'_1.1 hi
        obtain ⟨_, q, _⟩ := kids_gt h (l := [i]) (i := i) (j := m) (by simp [kidsF, hc])
        omega
theorem gt_cnt (h : Wd nodes under lv) : tcnt (gt nodes under 0) = nodes.length := by
  obtain ⟨d, hd⟩ : ∃ d, nodes.length = d + 1 := ⟨nodes.length - 1, by have := h.pos; omega⟩
  have := forest h nodes.length 0 (by omega)
  rw [hd, List.range'_succ, sumIf] at this
  have h0 : ahead under 0 0 = true := by unfold ahead; rw [h.root.1]; rfl
  rw [if_pos h0, sumIf_none _ _ _ (fun i hi => ?_)] at this
  · rw [hd]; omega
  · have hi' := List.mem_range'_1.1 hi
    obtain ⟨p, _, _, hu, _⟩ := h.par i (by omega) (by omega)
    unfold ahead
    rw [hu]; simp
end
end Pr
end Go.Ev


namespace Go.Ev
namespace Pr
set_option linter.unusedVariables false
set_option linter.unusedSimpArgs false

/-! ### A tree of numbers -/
def words : List Str := [[97], [98], [105, 116, 101, 109], [120, 32, 121], [37], [97, 47, 98], [46, 46], [122], [49], [108, 105, 115, 116], [255], [63, 61, 38]]
theorem words_len : ∀ w ∈ words, w.length ≤ 64 := by decide
theorem tags_ok : ∀ s ∈ ([[97], [98], [108, 105], [111, 117, 116, 108, 101, 116]] : List Str), tagOk s = true := by decide +kernel
theorem div_ok : tagOk [100, 105, 118] = true := by decide +kernel

section
variable {nodes : List Tree0} {under : List Int} {lv : List Nat}
theorem getElem?_push {α : Type} (l : List α) (x : α) (j : Nat) : (l ++ [x])[j]? = if j < l.length then l[j]? else if j = l.length then some x else none := by
  by_cases h : j < l.length
  · rw [if_pos h, List.getElem?_append_left h]
  · rw [if_neg h, List.getElem?_append_right (by omega)]
    by_cases h2 : j = l.length
    · rw [if_pos h2, h2]; simp
    · rw [if_neg h2]
      have : ∃ k, j - l.length = k + 1 := ⟨j - l.length - 1, by omega⟩
      obtain ⟨k, hk⟩ := this
      rw [hk]; rfl
theorem push_old {α : Type} {l : List α} {x y : α} {j : Nat} (h : l[j]? = some y) : (l ++ [x])[j]? = some y := by
  rw [List.getElem?_append_left (List.getElem?_eq_some_iff.1 h).1]; exact h
theorem wd_push (h : Wd nodes under lv) (hl : nodes.length ≤ 12) {t : Tree0} (ht : n0ok t) {p v : Nat} {tp : Tree0} (hp : nodes[p]? = some tp) (htp : tp.Tag ≠ []) (hv : lv[p]? = some v) (h6 : v ≤ 6) : Wd (nodes ++ [t]) (under ++ [(p : Int)]) (lv ++ [v + 1]) where
  lu := by simp [h.lu]
  ll := by simp [h.ll]
  pos := by simp
  le := by simp; omega
  ok := fun j u hu => by
    rw [getElem?_push] at hu
    split at hu
    · exact h.ok j u hu
    · split at hu
      · cases hu; exact ht
      · cases hu
  root := ⟨push_old h.root.1, push_old h.root.2⟩
  par := fun j h0 hj => by
    simp only [List.length_append, List.length_singleton] at hj
    by_cases hjl : j < nodes.length
    · obtain ⟨q, tq, vq, h1, h2, h3, h4, h5, h6⟩ := h.par j h0 hjl
      exact ⟨q, tq, vq, push_old h1, h2, push_old h3, h4, push_old h5, push_old h6⟩
    · have hj : j = nodes.length := by omega
      subst hj
      have hpl := (List.getElem?_eq_some_iff.1 hp).1
      refine ⟨p, tp, v, ?_, hpl, push_old hp, htp, push_old hv, ?_⟩
      · rw [getElem?_push, h.lu, if_neg (by omega), if_pos rfl]
      · rw [getElem?_push, h.ll, if_neg (by omega), if_pos rfl]
  lim := fun j w hw => by
    rw [getElem?_push] at hw
    split at hw
    · exact h.lim j w hw
    · split at hw
      · cases hw; omega
      · cases hw

/-- The root is an element. -/
def rootEl (nodes : List Tree0) : Prop := ∃ t, nodes[0]? = some t ∧ t.Tag = [100, 105, 118] ∧ t.Key = []

theorem j48_ok (h : Wd nodes under lv) (hr : rootEl nodes) (n : Nat) (hn : 20 < n) (hl : nodes.length ≤ 12) {i : Int} (again : List Tree0 → List Int → Int → Option Tree) {p : Nat} {tp : Tree0} (hp : nodes[p]? = some tp) (htp : tp.Tag ≠ []) (a b c : Str) (ats : List Attr) (ht : n0ok ⟨a, b, c, ats⟩) :
    ∃ (u : Int) (w : Nat), Wd (nodes ++ [⟨a, b, c, ats⟩]) (under ++ [u]) (lv ++ [w]) ∧ porticokeep_Wood_Tree_j48 n nodes under i again (p : Int) a b c ats = again (nodes ++ [⟨a, b, c, ats⟩]) (under ++ [u]) (IntKind.wrap .i64 (i + 1)) := by
  have hpl : p < lv.length := by rw [h.ll]; exact (List.getElem?_eq_some_iff.1 hp).1
  have hv := List.getElem?_eq_getElem hpl
  have key : ∀ (q : Nat) (u : Int), u = (q : Int) → porticokeep_Wood_Tree_j52 nodes under i again a b c ats u = again (nodes ++ [⟨a, b, c, ats⟩]) (under ++ [u]) (IntKind.wrap .i64 (i + 1)) := fun q u hu => by
    unfold porticokeep_Wood_Tree_j52
    rw [app_ok (by rw [bnd]; simp; omega), Option.bind_some, app_ok (by rw [bnd, h.lu]; simp; omega), Option.bind_some]
  unfold porticokeep_Wood_Tree_j48
  rw [deep0_ok h n hn hv, Option.bind_some]
  by_cases h6 : 6 < lv[p]
  · obtain ⟨t0, h1, h2, _⟩ := hr
    refine ⟨((0 : Nat) : Int), 2, wd_push h hl ht h1 (by rw [h2]; simp) h.root.2 (by omega), ?_⟩
    rw [if_pos (by rw [decide_eq_true_eq]; omega)]
    exact key 0 _ rfl
  · refine ⟨(p : Int), lv[p] + 1, wd_push h hl ht hp htp hv (by omega), ?_⟩
    rw [if_neg (by rw [decide_eq_true_eq]; omega)]
    exact key p _ rfl

theorem wlen : (words.length : Int) = 12 := rfl
theorem n0_tag {tag key : Str} (h1 : tag ∈ ([[97], [98], [108, 105], [111, 117, 116, 108, 101, 116]] : List Str)) (h2 : key.length ≤ 64) {ats : List Attr} (h3 : attrsOk ats) : n0ok ⟨tag, key, [], ats⟩ := .inr ⟨tags_ok tag h1, rfl, h2, h3⟩
theorem j72_ok (h : Wd nodes under lv) (hr : rootEl nodes) (n : Nat) (hn : 20 < n) (hl : nodes.length ≤ 12) (k : K_Wood) {i : Nat} (hi : i ≤ 20) (again : List Tree0 → List Int → Int → Option Tree) {p : Nat} {tp : Tree0} (hp : nodes[p]? = some tp) (htp : tp.Tag ≠ []) {tag key : Str} (h1 : tag ∈ ([[97], [98], [108, 105], [111, 117, 116, 108, 101, 116]] : List Str)) (h2 : key.length ≤ 64) :
    ∃ (t : Tree0) (u : Int) (w : Nat), Wd (nodes ++ [t]) (under ++ [u]) (lv ++ [w]) ∧ porticokeep_Wood_Tree_j72 n k words nodes under (i : Int) again (p : Int) tag key = again (nodes ++ [t]) (under ++ [u]) ((i + 1 : Nat) : Int) := by
  obtain ⟨r, hr1⟩ := pick_ok n k.Texts (i : Int) (by omega)
  unfold porticokeep_Wood_Tree_j72
  rw [hr1, Option.bind_some]
  by_cases hb : (andI .i64 r 1 == 1) = true
  · rw [if_pos hb, w64 (by omega) (by omega)]
    obtain ⟨r2, hr2⟩ := pick_ok n k.Texts ((i : Int) + 1) (by omega)
    rw [hr2, Option.bind_some, wlen, w64 (by omega) (by omega)]
    obtain ⟨q, q1, q2, q3⟩ := within_ok n r2 0 (12 - 1) (by omega) (by omega) (by omega)
    obtain ⟨w, w1, w2, _⟩ := idx_in words q2 (by rw [wlen]; omega)
    rw [q1, Option.bind_some, w1, Option.bind_some]
    obtain ⟨u, v, k1, k2⟩ := j48_ok h hr n hn hl (i := (i : Int)) again hp htp tag key [] [Attr.mk [120] w] (n0_tag h1 h2 (.inr ⟨_, rfl, by simp, by simp, words_len w w2⟩))
    rw [w64 (by omega) (by omega)] at k2
    exact ⟨_, u, v, k1, k2⟩
  · rw [if_neg hb]
    obtain ⟨u, v, k1, k2⟩ := j48_ok h hr n hn hl (i := (i : Int)) again hp htp tag key [] [] (n0_tag h1 h2 (.inl rfl))
    rw [w64 (by omega) (by omega)] at k2
    exact ⟨_, u, v, k1, k2⟩
theorem j33_ok (h : Wd nodes under lv) (hr : rootEl nodes) (n : Nat) (hn : 20 < n) (hl : nodes.length ≤ 12) (k : K_Wood) {i : Nat} (hi : i ≤ 20) (again : List Tree0 → List Int → Int → Option Tree) {p : Nat} {tp : Tree0} (hp : nodes[p]? = some tp) (htp : tp.Tag ≠ []) :
    ∃ (t : Tree0) (u : Int) (w : Nat), Wd (nodes ++ [t]) (under ++ [u]) (lv ++ [w]) ∧ porticokeep_Wood_Tree_j33 n k words nodes under (i : Int) again (p : Int) = again (nodes ++ [t]) (under ++ [u]) ((i + 1 : Nat) : Int) := by
  obtain ⟨r, hr1⟩ := pick_ok n k.Texts (i : Int) (by omega)
  obtain ⟨q, q1, q2, q3⟩ := within_ok n r 0 (12 - 1) (by omega) (by omega) (by omega)
  obtain ⟨w, w1, w2, _⟩ := idx_in words q2 (by rw [wlen]; omega)
  obtain ⟨r2, hr2⟩ := pick_ok n k.Kinds (i : Int) (by omega)
  obtain ⟨c, c1, c2, c3⟩ := within_ok n r2 0 5 (by omega) (by omega) (by omega)
  unfold porticokeep_Wood_Tree_j33
  rw [hr1, Option.bind_some, wlen, w64 (by omega) (by omega), q1, Option.bind_some, w1, Option.bind_some, hr2, Option.bind_some, c1, Option.bind_some]
  by_cases hc : c < 4
  · rw [if_pos (by rw [decide_eq_true_eq]; exact hc)]
    obtain ⟨tag, t1, t2, _⟩ := idx_in ([[97], [98], [108, 105], [111, 117, 116, 108, 101, 116]] : List Str) c2 (by simp; omega)
    obtain ⟨r3, hr3⟩ := pick_ok n k.Keys (i : Int) (by omega)
    obtain ⟨d, d1, d2, d3⟩ := within_ok n r3 0 6 (by omega) (by omega) (by omega)
    rw [t1, Option.bind_some, hr3, Option.bind_some, d1, Option.bind_some]
    by_cases hd : d < 4
    · rw [if_pos (by rw [decide_eq_true_eq]; exact hd)]
      exact j72_ok h hr n hn hl k hi again hp htp t2 (by simp)
    · rw [if_neg (by rw [decide_eq_true_eq]; exact hd)]
      exact j72_ok h hr n hn hl k hi again hp htp t2 (by simp)
  · rw [if_neg (by rw [decide_eq_true_eq]; exact hc)]
    obtain ⟨u, v, k1, k2⟩ := j48_ok h hr n hn hl (i := (i : Int)) again hp htp [] [] w [] (.inl ⟨rfl, rfl, rfl, words_len w w2⟩)
    rw [w64 (by omega) (by omega)] at k2
    exact ⟨_, u, v, k1, k2⟩
theorem wood_loop (n : Nat) (hn : 100 < n) (k : K_Wood) : ∀ (m i f : Nat) (nodes : List Tree0) (under : List Int) (lv : List Nat), Wd nodes under lv → rootEl nodes → nodes.length = i + 1 → i + m = 12 → m < f →
    ∃ nodes' under' lv', Wd nodes' under' lv' ∧ rootEl nodes' ∧ porticokeep_Wood_Tree_l25 n k words f nodes under (i : Int) = porticokeep_grow n nodes' under' 0
  | m, i, f + 1, nodes, under, lv, h, hr, hl, hm, hf => by
    rw [porticokeep_Wood_Tree_l25]
    by_cases hc : i < k.Under.length ∧ i < 12
    · obtain ⟨m, rfl⟩ : ∃ m', m = m' + 1 := ⟨m - 1, by omega⟩
      rw [if_pos (by simp; omega), idx_nat, List.getElem?_eq_getElem hc.1, Option.bind_some]
      rw [w64 (n := (nodes.length : Int) - 1) (by omega) (by omega)]
      obtain ⟨q, q1, q2, q3⟩ := within_ok n k.Under[i] 0 ((nodes.length : Int) - 1) (by omega) (by omega) (by omega)
      obtain ⟨t, t1, t2, t3⟩ := idx_in nodes q2 (by omega)
      rw [q1, Option.bind_some, t1, Option.bind_some]
      have go : ∀ (p : Nat) (tp : Tree0), nodes[p]? = some tp → tp.Tag ≠ [] → ∃ nodes' under' lv', Wd nodes' under' lv' ∧ rootEl nodes' ∧ porticokeep_Wood_Tree_j33 n k words nodes under (i : Int) (porticokeep_Wood_Tree_l25 n k words f) (p : Int) = porticokeep_grow n nodes' under' 0 := fun p tp hp htp => by
        obtain ⟨t', u, w, k1, k2⟩ := j33_ok (i := i) h hr n (by omega) (by omega) k (by omega) (porticokeep_Wood_Tree_l25 n k words f) hp htp
        have hr' : rootEl (nodes ++ [t']) := by
          obtain ⟨t0, h1, h2⟩ := hr
          exact ⟨t0, push_old h1, h2⟩
        obtain ⟨n', u', l', g1, g2, g3⟩ := wood_loop n hn k m (i + 1) f _ _ _ k1 hr' (by simp; omega) (by omega) (by omega)
        exact ⟨n', u', l', g1, g2, by rw [k2, g3]⟩
      by_cases hb : (t.Tag == []) = true
      · rw [if_pos hb]
        obtain ⟨t0, h1, h2, h3⟩ := hr
        exact go 0 t0 h1 (by rw [h2]; simp)
      · rw [if_neg hb]
        have hqn : q = (q.toNat : Int) := by omega
        rw [hqn]
        exact go q.toNat t t3 (by simpa using hb)
    · rw [if_neg (by simp; omega)]
      exact ⟨nodes, under, lv, h, hr, by cases porticokeep_grow n nodes under 0 <;> rfl⟩
end

/-- What a tree of numbers is. -/
theorem wood_ok (k : K_Wood) (n : Nat) (hn : 100 < n) : ∃ t, porticokeep_Wood_Tree n k = some t ∧ tgood t ∧ tcnt t ≤ 13 ∧ tdep t ≤ 7 ∧ t.Tag = [100, 105, 118] ∧ t.Key = [] := by
  have h0 : Wd [⟨[100, 105, 118], [], [], []⟩] [-1] [1] := by
    refine ⟨rfl, rfl, by simp, by simp, fun j t ht => ?_, ⟨rfl, rfl⟩, fun j h1 h2 => ?_, fun j v hv => ?_⟩
    · cases j with
      | zero => simp at ht; subst ht; exact .inr ⟨div_ok, rfl, by simp, .inl rfl⟩
      | succ j => simp at ht
    · simp at h2; omega
    · cases j with
      | zero => simp at hv; subst hv; omega
      | succ j => simp at hv
  obtain ⟨nodes, under, lv, h, hr, he⟩ := wood_loop n hn k 12 0 n _ _ _ h0 ⟨_, rfl, rfl, rfl⟩ rfl rfl (by omega)
  have hle := h.le
  have hg := gt_good h nodes.length 0 1 (by omega) h.root.2
  have hc := gt_cnt h
  obtain ⟨t0, r1, r2, r3⟩ := hr
  refine ⟨gt nodes under 0, ?_, hg.1, by rw [hc]; exact hle, by omega, by rw [gt_eq h r1]; exact r2, by rw [gt_eq h r1]; exact r3⟩
  unfold porticokeep_Wood_Tree porticokeep_Words
  rw [Option.bind_some]
  have := grow_ok h n 0 h.pos (by omega)
  rw [show ((0 : Nat) : Int) = 0 from rfl] at this he
  rw [← this, ← he]
  rfl
end Pr
end Go.Ev


namespace Go.Ev
namespace Pr
set_option linter.unusedVariables false
set_option linter.unusedSimpArgs false

theorem tgood_zz {t : Tree} (h : tgood t) : t.Tag ≠ [122, 122] := by
  rcases ((tgood_iff t).1 h).1 with h | h
  · rw [h.1]; simp
  · intro q
    have := h.1
    rw [q] at this
    simp [tagOk] at this

/-! ### ShapeTells -/
theorem meas_loop (self : Tree → Option (Int × Int × Int)) (t : Tree) (hs : ∀ z ∈ t.Kids, self z = some ((tcnt z : Int), (tdep z : Int), (tslo z : Int))) (hb : lcnt t.Kids < 1000000) : ∀ (rest done : List Tree) (k : Nat) (n d s : Nat), t.Kids = done ++ rest → rest.length < k → n + lcnt rest < 2000000000 → d < 1000000000 → s + lcnt rest < 2000000000 →
    porticokeep_Measure_l23 self t k (n : Int) (d : Int) (s : Int) (done.length : Int) = some (((n + lcnt rest : Nat) : Int), ((max d (ldep rest) + 1 : Nat) : Int), ((s + lslo rest : Nat) : Int))
  | [], done, k + 1, n, d, s, hk, _, h0, h1, h2 => by
    rw [porticokeep_Measure_l23, if_neg (by rw [hk]; simp), w64 (by omega) (by omega)]
    simp [lcnt, ldep, lslo]
  | z :: rest, done, k + 1, n, d, s, hk, hl, h0, h1, h2 => by
    have hlen := lcnt_len t.Kids
    have hkl : t.Kids.length = done.length + rest.length + 1 := by rw [hk]; simp; omega
    have hz : z ∈ t.Kids := by rw [hk]; simp
    have hd := (ldep_le t.Kids).2 z hz
    have hd2 := (ldep_le t.Kids).1
    have hzs : tslo z ≤ tcnt z := by have := lslo_le [z]; simpa [lslo, lcnt] using this
    simp only [lcnt] at h0 h2
    rw [porticokeep_Measure_l23, if_pos (by rw [decide_eq_true_eq, hkl]; omega), idx_mid hk, Option.bind_some, hs z hz, Option.bind_some]
    simp only
    rw [w64 (n := (n : Int) + tcnt z) (by omega) (by omega), w64 (n := (s : Int) + tslo z) (by omega) (by omega), w64 (by omega) (by omega)]
    have hm : maxI (d : Int) (tdep z : Int) = ((max d (tdep z) : Nat) : Int) := by
      unfold maxI; split <;> omega
    rw [hm]
    have := meas_loop self t hs hb rest (done ++ [z]) k (n + tcnt z) (max d (tdep z)) (s + tslo z) (by rw [hk]; simp) (by simp at hl; omega) (by omega) (by omega) (by omega)
    rw [List.length_append, List.length_singleton] at this
    push_cast at this ⊢
    rw [this]
    simp only [lcnt, ldep, lslo]
    congr 1
    refine Prod.ext ?_ (Prod.ext ?_ ?_)
    · push_cast; omega
    · simp only; omega
    · push_cast; omega
theorem meas_ok : ∀ (m : Nat) (t : Tree), tcnt t ≤ m → m < 1000000 → ∀ n, m < n → porticokeep_Measure n t = some ((tcnt t : Int), (tdep t : Int), (tslo t : Int))
  | 0, t, h, _, n, _ => by rw [tcnt_kids] at h; omega
  | m + 1, t, h, hm, n + 1, hn => by
    have hs : ∀ z ∈ t.Kids, porticokeep_Measure n z = some ((tcnt z : Int), (tdep z : Int), (tslo z : Int)) := fun z hz => meas_ok m z (by have := lcnt_mem' hz; omega) (by omega) n (by omega)
    have hk := tcnt_kids t
    have hlen := lcnt_len t.Kids
    rw [porticokeep_Measure]
    unfold porticokeep_Measure_j8
    have go : ∀ s : Nat, s ≤ 1 → porticokeep_Measure_l23 (porticokeep_Measure n) t n 1 0 (s : Int) 0 = some ((tcnt t : Int), (tdep t : Int), ((s + lslo t.Kids : Nat) : Int)) := fun s hs1 => by
      have := meas_loop (porticokeep_Measure n) t hs (by omega) t.Kids [] n 1 0 s rfl (by omega) (by omega) (by omega) (by omega)
      simp only [List.length_nil] at this
      rw [show ((0 : Nat) : Int) = 0 from rfl, show ((1 : Nat) : Int) = 1 from rfl] at this
      rw [this, hk, tdep_kids]
      congr 1
      refine Prod.ext ?_ (Prod.ext ?_ rfl)
      · rfl
      · simp only; push_cast; omega
    rw [tslo_kids]
    unfold isOut
    by_cases ho : t.Tag = [111, 117, 116, 108, 101, 116]
    · rw [if_pos (by simpa using ho), if_pos ho]
      exact go 1 (by omega)
    · rw [if_neg (by simpa using ho), if_neg ho]
      exact go 0 (by omega)

theorem shapeTells_ok (k o : K_Wood) : porticolaw13_ShapeTells 1000 k o = some true := by
  obtain ⟨a, a1, ha, ca, da, _, _⟩ := wood_ok k 1000 (by omega)
  obtain ⟨b, b1, hb, cb, db, _, _⟩ := wood_ok o 1000 (by omega)
  have sa := tsz_le 100 a (by omega) ha
  have sb := tsz_le 100 b (by omega) hb
  unfold porticolaw13_ShapeTells
  rw [a1, Option.bind_some, b1, Option.bind_some, copy_ok 200 a (by omega) (by omega) 1000 (by omega), Option.bind_some, meas_ok 100 a (by omega) (by omega) 1000 (by omega), Option.bind_some]
  rw [Right_ok 1000 a (by omega) (by omega) ha, Option.bind_some, show (decide (tcnt a ≤ 60) && decide (tdep a ≤ 12)) = true by simp; omega, if_neg (by simp)]
  rw [count_ok 100 a (by omega) (by omega) 1000 (by omega), Option.bind_some, if_neg (by simp), deep_ok 100 a (by omega) (by omega) 1000 (by omega), Option.bind_some, if_neg (by simp), slots_ok 100 a (by omega) (by omega) 1000 (by omega), Option.bind_some, if_neg (by simp)]
  rw [trees_ok 200 a a (by omega) (by omega) 1000 (by omega), Option.bind_some, tbeq_refl, if_neg (by simp)]
  rw [same_ok 200 a b (by omega) (by omega) 1000 (by omega), Option.bind_some, trees_ok 200 a b (by omega) (by omega) 1000 (by omega), Option.bind_some, if_neg (by simp)]
  rw [same_ok 200 a a (by omega) (by omega) 1000 (by omega), Option.bind_some, tbeq_refl]
  unfold porticolaw13_ShapeTells_j45
  rw [if_neg (by simp)]
  cases hk : a.Kids with
  | nil => rw [if_neg (by simp)]; rfl
  | cons z l =>
    rw [if_pos (by simp)]
    have e0 : idx (z :: l) 0 = some z := rfl
    rw [e0, Option.bind_some]
    have e1 : setI (z :: l) 0 (Tree.mk [122, 122] z.Key z.Text z.Attrs z.Kids) = Tree.mk [122, 122] z.Key z.Text z.Attrs z.Kids :: l := rfl
    rw [e1]
    have e2 : idx (Tree.mk [122, 122] z.Key z.Text z.Attrs z.Kids :: l) 0 = some (Tree.mk [122, 122] z.Key z.Text z.Attrs z.Kids) := rfl
    rw [e2, Option.bind_some]
    have e3 : setI (Tree.mk [122, 122] z.Key z.Text z.Attrs z.Kids :: l) 0 (Tree.mk (Tree.mk [122, 122] z.Key z.Text z.Attrs z.Kids).Tag [111, 116, 104, 101, 114] (Tree.mk [122, 122] z.Key z.Text z.Attrs z.Kids).Text (Tree.mk [122, 122] z.Key z.Text z.Attrs z.Kids).Attrs (Tree.mk [122, 122] z.Key z.Text z.Attrs z.Kids).Kids) = Tree.mk [122, 122] [111, 116, 104, 101, 114] z.Text z.Attrs z.Kids :: l := rfl
    rw [e3]
    have hz : z ∈ a.Kids := by rw [hk]; simp
    have hzz := tgood_zz (lg_mem.1 ((tgood_iff a).1 ha).2 z hz)
    have hsz : tsz (Tree.mk a.Tag a.Key a.Text a.Attrs (Tree.mk [122, 122] [111, 116, 104, 101, 114] z.Text z.Attrs z.Kids :: l)) = tsz a := by
      rw [tsz_kids a, hk, tsz]
      simp only [tsz.lsz]
      rw [tsz, tsz_kids z]
    have hne : tbeq (Tree.mk a.Tag a.Key a.Text a.Attrs (Tree.mk [122, 122] [111, 116, 104, 101, 114] z.Text z.Attrs z.Kids :: l)) a = false := by
      have h0 : ((Tree.mk [122, 122] [111, 116, 104, 101, 114] z.Text z.Attrs z.Kids).Tag == z.Tag) = false := by
        simp only [beq_eq_false_iff_ne]
        exact fun q => hzz q.symm
      have h1 : tbeq (Tree.mk [122, 122] [111, 116, 104, 101, 114] z.Text z.Attrs z.Kids) z = false := by
        rw [tbeq_eq, h0]; simp
      have h2 : tbeq.lbeq (Tree.mk [122, 122] [111, 116, 104, 101, 114] z.Text z.Attrs z.Kids :: l) (z :: l) = false := by
        rw [tbeq.lbeq, h1]; rfl
      rw [tbeq_eq, hk]
      show (_ && tbeq.lbeq (Tree.mk [122, 122] [111, 116, 104, 101, 114] z.Text z.Attrs z.Kids :: l) (z :: l)) = false
      rw [h2]; simp
    rw [trees_ok 200 _ a (by rw [hsz]; omega) (by omega) 1000 (by omega), Option.bind_some, hne, if_neg (by simp), same_ok 200 _ a (by rw [hsz]; omega) (by omega) 1000 (by omega), Option.bind_some, hne, Option.bind_some, if_neg (by simp)]
    rfl
end Pr
end Go.Ev


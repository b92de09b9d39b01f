import Derived.Test.YtdelaagbhhnniaaGreatDoorEvOper
namespace Go.Ev
set_option linter.unusedVariables false
set_option linter.unusedSimpArgs false

section
variable {R : ObjR} {C : Cfg} {cx : Cx} {S : St} {w : World} {σ : Operand → Value}

theorem oper_sound (hRC : ObjOkC R C) (hS : SRel R cx S w) {ρ : Operand → Option AV} (hρ : ρRel cx S w ρ σ) (o : Oper) {nx : Nxt} (h : oper C ρ S o.op = some nx) : OpOk R C cx S w σ o nx := by
  have hR := hRC.toObjOk
  obtain ⟨dst, op, type, pos, after, guard⟩ := o
  simp only at h
  cases op <;> simp only [oper] at h <;> try (cases h; done)
  case move x =>
    simp only [Option.map_eq_some_iff] at h
    obtain ⟨v, hv, rfl⟩ := h
    exact OpOk.pure hS rfl (hρ _ _ hv)
  case assign x =>
    simp only [Option.map_eq_some_iff] at h
    obtain ⟨v, hv, rfl⟩ := h
    exact OpOk.pure hS rfl (hρ _ _ hv)
  case pick c a b =>
    split at h
    · rename_i t hc
      simp only [Option.map_eq_some_iff] at h
      obtain ⟨v, hv, rfl⟩ := h
      have hb := (hρ _ _ hc).bool
      refine OpOk.pure (u := σ (if t then a else b)) hS ?_ (hρ _ _ hv)
      simp only [execOp, hb, asBool, Sem.run_bind, Sem.run_pure, Result.andThen_ok]
      cases t <;> rfl
    · cases h
  case alloc t =>
    cases hhas : S.H.has S.nx with
    | true => simp [hhas] at h
    | false =>
    simp only [hhas, cond_false] at h
    split at h
    · rename_i kk xx hobj
      simp only [Option.some.injEq] at h
      subst h
      obtain ⟨zv, r1, r2, r3⟩ := hRC.new t kk xx hobj
      obtain ⟨cx', k1, k2, k3⟩ := newobj_sound hR hS kk xx (.cells zv.cells t) r3 (r2 w)
      refine ⟨cx', _, _, ?_, k1, k2, k3⟩
      refine exV ?_
      simp only [Instr.alloc, Sem.run_bind, r1, Result.andThen_ok, newVar, newRow, run_newObj, Sem.run_pure]
      rfl
    simp only [Option.map_eq_some_iff] at h
    obtain ⟨z, hz, rfl⟩ := h
    obtain ⟨zv, r1, r2⟩ := zero_sound hz w cx.fr
    have hp := plainAV_cells (cx := cx) (S := S) (.d z zv r2) rfl
    obtain ⟨cx', k1, k2, k3⟩ := new_sound hR hS (AV.d z).cells zv.cells.toList t hp.1 (fun i x v hx hv => ⟨hp.2.2 i x v hx hv, hp.2.1 v (List.mem_of_getElem? hv)⟩)
    refine ⟨cx', _, _, ?_, k1, k2, k3⟩
    refine exV ?_
    simp only [Instr.alloc, Sem.run_bind, r1, Result.andThen_ok, newVar, newRow, run_newObj, Sem.run_pure]
    rfl
  case box t x =>
    split at h
    · rename_i v hv
      split at h
      · rename_i hpl
        cases hhas : S.H.has S.nx with
        | true => simp [hhas] at h
        | false =>
        simp only [hhas, cond_false, Option.some.injEq] at h
        subst h
        have hp := plainAV_cells (hρ _ _ hv) hpl
        obtain ⟨cx', k1, k2, k3⟩ := new_sound hR hS v.cells (σ x).cells.toList t hp.1 (fun i x v hx hv => ⟨hp.2.2 i x v hx hv, hp.2.1 v (List.mem_of_getElem? hv)⟩)
        refine ⟨cx', _, _, ?_, k1, k2, k3⟩
        refine exV ?_
        simp only [Instr.box, Sem.run_bind, Result.andThen_ok, newVar, newRow, run_newObj, Sem.run_pure]
        rfl
      · cases h
    · cases h
  case build t parts =>
    split at h
    · rename_i z ps hz hps
      split at h
      · rename_i pl hpl
        simp only [Option.map_eq_some_iff] at h
        obtain ⟨cs, hcs, rfl⟩ := h
        obtain ⟨u, b1, b2⟩ := build_sound hρ hz hps hpl hcs
        exact OpOk.pure hS (exV b1) b2
      · cases h
    · cases h
  case buildSlice t len parts =>
   cases hrw : asRow C t len with
   | true =>
    rw [hrw] at h
    simp only [cond_true] at h
    split at h
    · rename_i ps hps
      obtain ⟨v, S', rfl, cx', u, w', b1, b2, b3, b4⟩ := buildRow_sound hR hS hρ hps h
      exact ⟨cx', w', u, exV b1, b2, b3, b4⟩
    · cases h
   | false =>
    rw [hrw] at h
    simp only [cond_false] at h
    split at h
    · rename_i e ps he hps
      split at h
      · rename_i hsm
        split at h
        · rename_i z hz
          split at h
          · rename_i cs hcs
            split at h
            · rename_i ag hag
              simp only [Option.map_eq_some_iff] at h
              obtain ⟨xs, hxs, rfl⟩ := h
              obtain ⟨u, w', b1, b2, b3, b4⟩ := buildSlice_sound hR hS hρ he hps hsm hz hcs hag hxs
              exact ⟨cx, w', u, exV b1, b2, b3, b4⟩
            · cases h
          · cases h
        · cases h
      · cases h
    · cases h
  case load t a =>
    split at h
    · rename_i v hv
      simp only [Option.map_eq_some_iff] at h
      obtain ⟨r, hr, rfl⟩ := h
      obtain ⟨u, b1, b2⟩ := load_sound (C := C) hS hr (hρ _ _ hv)
      exact OpOk.pure hS (exV b1) b2
    · cases h
  case store t a x =>
    split at h
    · rename_i p v hp hv
      simp only [Option.map_eq_some_iff] at h
      obtain ⟨S', hst, rfl⟩ := h
      obtain ⟨w', b1, b2, b3⟩ := store_sound hR hS hst (hρ _ _ hp) (hρ _ _ hv)
      exact ⟨cx, w', exU b1, b2, b3⟩
    · cases h
  case nilCheck x =>
    split at h
    · rename_i i g o' hx
      simp only [Option.some.injEq] at h; subst h
      have := hρ _ _ hx
      refine OpOk.pure (u := σ x) hS ?_ this
      generalize hq : σ x = v at this
      cases this
      simp [execOp, hq]
    · rename_i y o' hx
      simp only [Option.some.injEq] at h; subst h
      have := hρ _ _ hx
      refine OpOk.pure (u := σ x) hS ?_ this
      generalize hq : σ x = v at this
      cases this
      simp [execOp, hq]
    · rename_i g cs hx
      simp only [Option.some.injEq] at h; subst h
      have := hρ _ _ hx
      refine OpOk.pure (u := σ x) hS ?_ this
      generalize hq : σ x = v at this
      cases this
      simp [execOp, hq]
    · cases h
  case binOp op t x y yt =>
    split at h
    · rename_i a b ha hb
      simp only [Option.map_eq_some_iff] at h
      obtain ⟨r, hr, rfl⟩ := h
      obtain ⟨u, b1, b2⟩ := binD_sound hr (hρ _ _ ha) (hρ _ _ hb) x y
      exact OpOk.pure hS (exV b1) b2
    · cases h
  case unOp op t x =>
    split at h
    · rename_i b hx
      simp only [Option.some.injEq] at h; subst h
      have := (hρ _ _ hx).bool
      refine OpOk.pure (u := .bool (!b)) hS ?_ (.of_bool _)
      simp [execOp, this, Op.unary]
    · rename_i k n hx
      simp only [Option.some.injEq] at h; subst h
      have := (hρ _ _ hx).int
      refine OpOk.pure (u := .int k (k.wrap (0 - n))) hS ?_ (.of_int _ _)
      simp [execOp, this, Op.unary, Op.intArith]
    · cases h
  case convert src dst' x =>
    split at h
    · rename_i v hv
      simp only [Option.map_eq_some_iff] at h
      obtain ⟨r, hr, rfl⟩ := h
      obtain ⟨u, b1, b2⟩ := conv_sound hr (hρ _ _ hv)
      exact OpOk.pure hS (exV b1) b2
    · cases h
  case makeFunc fn first caps =>
    split at h
    · rename_i g hf
      simp only [Option.map_eq_some_iff] at h
      obtain ⟨cs, hcs, rfl⟩ := h
      obtain ⟨h1, h2⟩ := args_sound hρ hcs
      have hf0 : first = #[] := Array.toList_eq_nil_iff.1 hf
      subst hf0
      refine OpOk.pure (u := .func (.func g) #[] (caps.map σ)) hS (by simp [execOp, Instr.makeFunc]) ?_
      exact ARel.fn (cx := cx) (S := S) (w := w) g cs (caps.map σ).toList h1 h2
    · cases h
  case slice t x lo hi mx =>
    split at h
    · rename_i v hv
      split at h
      · rename_i l hh m hl hhi hm
        simp only [Option.map_eq_some_iff] at h
        obtain ⟨r, hr, rfl⟩ := h
        obtain ⟨u, b1, b2⟩ := slice_sound hr (hρ _ _ hv) (dOpt_sound hρ hl) (dOpt_sound hρ hhi) (dOpt_sound hρ hm)
        exact OpOk.pure hS (exV b1) b2
      · cases h
    · cases h
  case fieldAddr s x fld =>
    split at h
    · rename_i id g off fo ft hx hf
      split at h
      · cases h
      · rename_i hz
        simp only [Option.some.injEq] at h; subst h
        obtain ⟨u, b1, b2⟩ := (fieldAddr_sound (C := C) hf hz (hρ _ _ hx)).1 _ _ _ rfl
        exact OpOk.pure hS (exV b1) b2
    · rename_i y off fo ft hx hf
      split at h
      · cases h
      · rename_i hz
        simp only [Option.some.injEq] at h; subst h
        obtain ⟨u, b1, b2⟩ := (fieldAddr_sound (C := C) hf hz (hρ _ _ hx)).2 _ _ rfl
        exact OpOk.pure hS (exV b1) b2
    · cases h
  case field t x fld =>
    split at h
    · rename_i cs fo ft hx hf
      simp only [Option.map_eq_some_iff] at h
      obtain ⟨r, hr, rfl⟩ := h
      obtain ⟨u, b1, b2⟩ := (field_sound (C := C) (r := .d r) hf).2 cs r (hρ _ _ hx) hr
      exact OpOk.pure hS (exV b1) b2
    · rename_i cs fo ft hx hf
      simp only [Option.map_eq_some_iff] at h
      obtain ⟨r, hr, rfl⟩ := h
      obtain ⟨u, b1, b2⟩ := (field_sound (C := C) (r := r) hf).1 cs (hρ _ _ hx) hr
      exact OpOk.pure hS (exV b1) b2
    · cases h
  case indexAddr t x i =>
    split at h
    · rename_i v n hv hn
      simp only [Option.map_eq_some_iff] at h
      obtain ⟨r, hr, rfl⟩ := h
      obtain ⟨u, b1, b2⟩ := indexAddr_sound hr (hρ _ _ hv) (hρ _ _ hn)
      exact OpOk.pure hS (exV b1) b2
    · cases h
  case index t x i =>
    split at h
    · rename_i s k n hx hi
      split at h
      · rename_i hc
        simp only [Bool.and_eq_true, decide_eq_true_eq] at hc
        simp only [Option.map_eq_some_iff] at h
        obtain ⟨c, hcc, rfl⟩ := h
        have hi' := (hρ _ _ hi).int
        have := index_sound (P := C.P) (k := k) (hρ _ _ hx) hc.1 hc.2 hcc
        refine OpOk.pure hS (exV ?_) (.of_int _ _)
        rw [hi']; exact this
      · cases h
    · cases h
  case makeMap t r =>
    split at h
    · rename_i kt hkt hr
      cases hhas : S.H.has S.nx with
      | true => simp [hhas] at h
      | false =>
      simp only [hhas, cond_false, Option.some.injEq] at h; subst h
      obtain ⟨cx', k1, k2, k3⟩ := newmap_sound hR hS
      refine ⟨cx', _, _, exV (u := .map (some w.heap.size)) (w' := w.alloc (.map #[] 0)) ?_, k1, k2, k3⟩
      have hu := keyT_some hkt
      cases r with
      | none => rfl
      | some o' =>
        simp only at hr
        split at hr
        · rename_i k n hq
          have hi := (hρ _ _ hq).int
          simp only [Option.map_some, Instr.makeMap, Sem.run_bind, run_und w hu, Result.andThen_ok, hi, asInt, asIntOf, Sem.run_pure]
          rfl
        · cases hr
    · cases h
  case makeSlice t l c =>
    split at h
    · rename_i lv cv hl hc
      simp only [Option.map_eq_some_iff] at h
      obtain ⟨r, hr, rfl⟩ := h
      obtain ⟨cx', w', u, b1, b2, b3, b4⟩ := make_sound hR hS hr (hρ _ _ hl).dd (hρ _ _ hc).dd
      exact ⟨cx', w', u, exV b1, b2, b3, b4⟩
    · cases h
  case range t x =>
    split at h
    · rename_i kt id ht hx
      split at h
      · rename_i M hg
        cases hhas : S.H.has S.nx with
        | true => simp [hhas] at h
        | false =>
        simp only [hhas, cond_false, Option.some.injEq] at h; subst h
        obtain ⟨cx', w', u, b1, b2, b3, b4⟩ := range_sound hR hS ht hg (hρ _ _ hx)
        exact ⟨cx', w', u, exV b1, b2, b3, b4⟩
      · cases h
    · rename_i kt ht hx
      cases hhas : S.H.has S.nx with
      | true => simp [hhas] at h
      | false =>
      simp only [hhas, cond_false, Option.some.injEq] at h; subst h
      obtain ⟨cx', w', u, b1, b2, b3, b4⟩ := range_nil_sound hR hS ht (hρ _ _ hx)
      exact ⟨cx', w', u, exV b1, b2, b3, b4⟩
    · cases h
  case entry t =>
    split at h
    · rename_i k g id since seen st hx
      split at h
      · rename_i M n c hg hl hk
        split at h
        · rename_i hc
          split at h
          · rename_i i hf
            simp only [Option.map_eq_some_iff] at h
            obtain ⟨p, hp, rfl⟩ := h
            obtain ⟨hc1, hc2⟩ := hc
            subst hc2
            obtain ⟨u, b1, b2⟩ := entry_sound2 (C := C) hS (hρ _ _ hx) hg hl hk hc1 hf hp
            exact OpOk.pure hS (exV b1) b2
          · cases h
        · cases h
      · cases h
    · cases h
  case lookup t m k ok =>
    split at h
    · rename_i mv kd hm hk
      simp only [Option.map_eq_some_iff] at h
      obtain ⟨v, hv, rfl⟩ := h
      obtain ⟨u, b1, b2⟩ := lookup_sound hS hv (hρ _ _ hm) (hρ _ _ hk).dd
      exact OpOk.pure hS (exV b1) b2
    · cases h
  case mapUpdate t m k x =>
    split at h
    · rename_i mv kd v hm hk hx
      simp only [Option.map_eq_some_iff] at h
      obtain ⟨S', hv, rfl⟩ := h
      obtain ⟨w', b1, b2, b3⟩ := update_sound hR hS hv (hρ _ _ hm) (hρ _ _ hk).dd (hρ _ _ hx)
      exact ⟨cx, w', exU b1, b2, b3⟩
    · cases h
  case insert t m k x =>
    split at h
    · rename_i mv kd v hm hk hx
      simp only [Option.map_eq_some_iff] at h
      obtain ⟨S', hv, rfl⟩ := h
      obtain ⟨w', b1, b2, b3⟩ := update_sound hR hS hv (hρ _ _ hm) (hρ _ _ hk).dd (hρ _ _ hx)
      exact ⟨cx, w', exU b1, b2, b3⟩
    · cases h
  case mapEntry t m k =>
    split at h
    · rename_i mv kd hm hk
      simp only [Option.map_eq_some_iff] at h
      obtain ⟨r, hv, rfl⟩ := h
      obtain ⟨w', u, b1, b2, b3, b4⟩ := entry_sound hR hS hv (hρ _ _ hm) (hρ _ _ hk).dd
      exact ⟨cx, w', u, exV b1, b2, b3, b4⟩
    · cases h
  case entryStore t m st x =>
    split at h
    · rename_i mv sd v hm hk hx
      simp only [Option.map_eq_some_iff] at h
      obtain ⟨S', hv, rfl⟩ := h
      obtain ⟨w', b1, b2, b3⟩ := entryStore_sound hR (C := C) (t := t) hS hv (hρ _ _ hm) (hρ _ _ hk).dd (hρ _ _ hx)
      exact ⟨cx, w', exU b1, b2, b3⟩
    · cases h
  case extract t i =>
    split at h
    · rename_i vs ht
      simp only [Option.map_eq_some_iff] at h
      obtain ⟨v, hv, rfl⟩ := h
      have hr := hρ _ _ ht
      generalize hq : σ t = u at hr
      cases hr with
      | tup _ us hl hr =>
        have hlt : i < us.length := by rw [hl]; exact (List.getElem?_eq_some_iff.1 hv).1
        have hu := List.getElem?_eq_getElem hlt
        refine OpOk.pure hS (exV (u := us[i]) ?_) (hr i v _ hv hu)
        simp [Instr.extract, hq, hlt]
    · cases h
  case call c =>
    obtain ⟨callee, cargs, argTypes⟩ := c
    simp only at h
    cases callee <;> simp only at h <;> try (cases h; done)
    case value g =>
      split at h
      · rename_i k caps args hg ha
        simp only [Option.some.injEq] at h; subst h
        obtain ⟨h1, h2⟩ := args_sound hρ ha
        have hgr := hρ _ _ hg
        generalize hq : σ g = gv at hgr
        cases hgr with
        | fn _ _ cv hl hr =>
          refine ⟨(cargs.map σ).toList ++ cv, by rw [List.length_append, List.length_append, h1, hl], fun i x v hx hv => ?_, fun fn hf hb hn => ?_⟩
          · rw [List.getElem?_append] at hx hv
            by_cases hi : i < args.length
            · rw [if_pos hi] at hx; rw [if_pos (by rw [h1]; exact hi)] at hv; exact h2 i x v hx hv
            · rw [if_neg hi] at hx; rw [if_neg (by rw [h1]; exact hi), h1] at hv; exact hr _ x v hx hv
          · have hb' : fn.body.isNone = false := by cases hq : fn.body <;> simp_all
            have hn' : (fn.name == "runtime.NumGoroutine") = false := by simpa using hn
            simp only [execOp, resolve, hq, Deferred.ofValue, Sem.run_bind, Sem.run_pure, Result.andThen_ok, invoke, callFunc, run_program, hf, hn', hb', Bool.false_eq_true, if_false]
            congr 2
            apply Array.ext'
            simp
      · cases h
    case builtin b =>
      split at h
      · rename_i args ha
        obtain ⟨h1, h2⟩ := args_sound hρ ha
        obtain ⟨v, S', cx', w', u, rfl, b1, b2, b3, b4⟩ := builtin_sound (R := R) (C := C) (ty := type) (cs := cargs.map fun | .const _ => true | _ => false) hR hS h h1 h2
        refine ⟨cx', w', u, ?_, b2, b3, b4⟩
        simp only [execOp, resolve, Sem.run_bind, Sem.run_pure, Result.andThen_ok, invoke]
        have hq : (cargs.map σ).toList.toArray = cargs.map σ := rfl
        rw [hq] at b1
        exact b1
      · cases h

end
end Go.Ev

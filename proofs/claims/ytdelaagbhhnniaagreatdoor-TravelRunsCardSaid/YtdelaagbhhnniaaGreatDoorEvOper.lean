import Derived.Test.YtdelaagbhhnniaaGreatDoorEvIter
namespace Go.Ev
set_option linter.unusedVariables false
set_option linter.unusedSimpArgs false

/-- What an operation's answer says of the machine. -/
def OpOk (R : ObjR) (C : Cfg) (cx : Cx) (S : St) (w : World) (σ : Operand → Value) (o : Oper) : Nxt → Prop
  | .val v S' => ∃ cx' w' u, (execOp σ o).run C.P w = .ok (.value u) w' ∧ SRel R cx' S' w' ∧ Ext cx S w cx' S' w' ∧ ARel cx' S' w' v u
  | .skip S' => ∃ cx' w', (execOp σ o).run C.P w = .ok .skip w' ∧ SRel R cx' S' w' ∧ Ext cx S w cx' S' w'
  | .call f args => ∃ us : List Value, us.length = args.length ∧ (∀ (i : Nat) (x : AV) (v : Value), args[i]? = some x → us[i]? = some v → ARel cx S w x v) ∧
      ∀ fn, C.P.funcs[f]? = some fn → fn.body.isSome = true → fn.name ≠ "runtime.NumGoroutine" → (execOp σ o).run C.P w = .ok (.enter f us.toArray) w
  | .panic _ => False

theorem exV {P : Program} {w w' : World} {s : Sem Value} {u : Value} (h : s.run P w = .ok u w') : (do pure (.value (← s)) : Sem Next).run P w = .ok (.value u) w' := by
  rw [Sem.run_bind, h]; rfl
theorem exU {P : Program} {w w' : World} {s : Sem Unit} (h : s.run P w = .ok () w') : (do s; pure .skip : Sem Next).run P w = .ok .skip w' := by
  rw [Sem.run_bind, h]; rfl

section
variable {R : ObjR} {C : Cfg} {cx : Cx} {S : St} {w : World} {σ : Operand → Value} {o : Oper}

theorem OpOk.pure {v : AV} {u : Value} (hS : SRel R cx S w) (h : (execOp σ o).run C.P w = .ok (.value u) w) (hv : ARel cx S w v u) : OpOk R C cx S w σ o (.val v S) :=
  ⟨cx, w, u, h, hS, Ext.refl w hS.wf, hv⟩

theorem src_sound {x : AV} {ys : List D} {u : Value} {sz : Nat} (hd : dataOf x = some ys) (hx : ARel cx S w x u) (hs : sizes sz ys = true) :
    (Builtin.lenOf u).run C.P w = .ok ys.length w ∧ ∃ fs, (∀ w', w'.heap = w.heap → (Builtin.firstCells sz ys.length u).run C.P w' = .ok fs.toArray w') ∧ Flat w cx.fr sz ys fs := by
  obtain ⟨tight, hr⟩ := dataSl hd hx
  obtain ⟨a, cap, rfl, _⟩ := slI hr
  refine ⟨rfl, ?_⟩
  obtain ⟨fs, f1, f2, _⟩ := first_sound (P := C.P) hr hs
  refine ⟨fs, fun w' hw => ?_, f2⟩
  have hm : DRel w' cx.fr (.sl ys tight) (.slice a ys.length cap) := hr.mono (fun b o v h1 h2 => ⟨by simp only [World.cell?] at h2 ⊢; rw [hw]; exact h2, h1⟩)
  obtain ⟨gs, g1, g2, g3⟩ := first_sound (P := C.P) hm hs
  rw [g1]
  congr 2
  -- both are the same cells
  cases a with
  | none =>
    have h0 : ys = [] := by
      obtain ⟨a', cap', hv, _, _, hm⟩ := slI hr
      simp only [Value.slice.injEq] at hv
      by_cases q : ys = []
      · exact q
      · obtain ⟨b, off, sz', vs, e, _⟩ := hm q
        rw [← hv.1] at e; cases e
    subst h0
    have e1 : fs = [] := by have := f2.len; simpa using this
    have e2 : gs = [] := by have := g2.len; simpa using this
    rw [e1, e2]
  | some ad =>
    have hrun : (loadCells ad (ys.length * sz)).run C.P w = .ok fs.toArray w := f1
    have hrun' : (loadCells ad (ys.length * sz)).run C.P w' = .ok gs.toArray w' := g1
    by_cases q : ys = []
    · subst q
      have e1 : fs = [] := by have := f2.len; simpa using this
      have e2 : gs = [] := by have := g2.len; simpa using this
      rw [e1, e2]
    · obtain ⟨a', cap', hv, _, _, hm⟩ := slI hr
      obtain ⟨b, off, sz', vs, e, _⟩ := hm q
      simp only [Value.slice.injEq] at hv
      rw [← hv.1] at e
      simp only [Option.some.injEq] at e; subst e
      obtain ⟨fs', f1', f2', f3'⟩ := first_sound (P := C.P) hr hs
      rw [f1] at f1'
      simp only [Result.ok.injEq, and_true] at f1'
      have hff : fs = fs' := by simpa using f1'
      subst hff
      apply List.ext_getElem?
      intro i
      by_cases hi : i < gs.length
      · have hg := List.getElem?_eq_getElem hi
        have hi' : i < fs.length := by rw [f2.len, ← g2.len]; exact hi
        have hf := List.getElem?_eq_getElem hi'
        have c1 := g3 b off _ _ rfl i _ hg
        have c2 := f3' b off _ _ rfl i _ hf
        simp only [World.cell?] at c1 c2
        rw [hw] at c1
        rw [c2] at c1
        rw [hg, hf]; simpa using c1.symm
      · rw [List.getElem?_eq_none (by omega), List.getElem?_eq_none (by rw [f2.len, ← g2.len]; omega)]

theorem append_sound (hR : ObjOk R) (hS : SRel R cx S w) {t t2 e ty : Nat} {x r : AV} {ys : List D} {S' : St} {v u : Value} (h : opAppend C e S x ys = some (r, S')) (he : elemSl C.P t = some e) (h2 : okSrc C t2 = true) (hx : ARel cx S w x v)
    (hu : (Builtin.lenOf u).run C.P w = .ok ys.length w) (hsrc : sizes (szOf C.P e) ys = true → ∃ fs, (∀ w', w'.heap = w.heap → (Builtin.firstCells (szOf C.P e) ys.length u).run C.P w' = .ok fs.toArray w') ∧ Flat w cx.fr (szOf C.P e) ys fs)
    (h0 : ys = [] → ∀ sz, (Builtin.firstCells sz 0 u).run C.P w = .ok #[] w) (hi : (C.P.info? e).isSome = true) :
    ∃ cx' w' z, (Builtin.append_ #[t, t2] ty #[v, u]).run C.P w = .ok z w' ∧ SRel R cx' S' w' ∧ Ext cx S w cx' S' w' ∧ ARel cx' S' w' r z := by
  obtain ⟨ie, hi⟩ := Option.isSome_iff_exists.1 hi
  have nothing : ∀ {xs : List D} {tight : Bool}, DRel w cx.fr (.sl xs tight) v → ys.length = 0 → (Builtin.append_ #[t, t2] ty #[v, u]).run C.P w = .ok v w := by
    intro xs tight hd hy
    obtain ⟨a, cap, rfl, hcap, _⟩ := slI hd
    have hy' : ys = [] := List.eq_nil_of_length_eq_zero hy
    subst hy'
    have := run_append_fits (w := w) (ty := ty) (sLen := xs.length) (sCap := cap) (n := 0) (base := a) (u := u) (elemSl_some he) hi h2 hu (by omega) (new := #[]) (h0 rfl _)
    rw [this]
    cases a with
    | none => rfl
    | some ad => simp [storeCells]
  unfold opAppend at h
  split at h
  · by_cases hy : ys.length = 0
    · rw [if_pos hy, if_pos (by simp [hi])] at h
      simp only [Option.some.injEq, Prod.mk.injEq] at h
      obtain ⟨rfl, rfl⟩ := h
      exact ⟨cx, w, v, nothing (nilsSl hx.dd) hy, hS, Ext.refl w hS.wf, hx⟩
    · rw [if_neg hy] at h
      split at h
      · rename_i hc
        obtain ⟨c1, c2, c3, c4, c6⟩ := hc
        simp only [Option.some.injEq, Prod.mk.injEq] at h
        obtain ⟨rfl, rfl⟩ := h
        obtain ⟨fs, s1, s2⟩ := hsrc c4
        have := append_new hR hS (ty := ty) (xs := []) he h2 (nilsSl hx.dd) hu s1 s2 hy (by simpa using c1) c2 c3 rfl c6
        simpa using this
      · cases h
  · rename_i xs tight
    by_cases hy : ys.length = 0
    · rw [if_pos hy, if_pos (by simp [hi])] at h
      simp only [Option.some.injEq, Prod.mk.injEq] at h
      obtain ⟨rfl, rfl⟩ := h
      exact ⟨cx, w, v, nothing hx.dd hy, hS, Ext.refl w hS.wf, hx⟩
    · rw [if_neg hy] at h
      split at h
      · rename_i hc
        obtain ⟨c1, c2, c3, c4, c5, c6⟩ := hc
        split at h
        · rename_i ht
          subst ht
          simp only [Option.some.injEq, Prod.mk.injEq] at h
          obtain ⟨rfl, rfl⟩ := h
          obtain ⟨fs, s1, s2⟩ := hsrc c4
          exact append_new hR hS he h2 hx.dd hu s1 s2 hy c1 c2 c3 c5 c6
        · cases h
      · cases h
  · rename_i xs tok
    by_cases hy : ys.length = 0
    · rw [if_pos hy, if_pos (by simp [hi])] at h
      simp only [Option.some.injEq, Prod.mk.injEq] at h
      obtain ⟨rfl, rfl⟩ := h
      refine ⟨cx, w, v, ?_, hS, Ext.refl w hS.wf, hx⟩
      cases hx with
      | tsl _ _ b off cap hn hd hp => exact nothing hd hy
    · rw [if_neg hy] at h
      split at h
      · rename_i hc
        obtain ⟨c1, c2, c3, c4, c5, c6⟩ := hc
        split at h
        · rename_i en hT
          split at h
          · rename_i hen
            obtain ⟨rfl, hpos⟩ := hen
            simp only [Option.some.injEq, Prod.mk.injEq] at h
            obtain ⟨rfl, rfl⟩ := h
            obtain ⟨fs, s1, s2⟩ := hsrc c4
            exact append_tok hR hS he h2 hx (by intro q; subst q; simp at hpos) hT hu s1 s2 hy c1 c2 c3 c5 c6
          · cases h
        · cases h
      · cases h
  · cases h

theorem append_args {A : Array Nat} {V : Array Value} {t t2 ty : Nat} {v u : Value} (h1 : A[0]? = some t) (h2 : A[1]? = some t2) (h3 : V[0]? = some v) (h4 : V[1]? = some u) :
    Builtin.append_ A ty V = Builtin.append_ #[t, t2] ty #[v, u] := by
  unfold Builtin.append_
  simp only [h1, h2, h3, h4, List.getElem?_toArray, List.getElem?_cons_zero, List.getElem?_cons_succ]

theorem len_args {A : Array Nat} {V : Array Value} {t ty : Nat} {v : Value} (h1 : A[0]? = some t) (h3 : V[0]? = some v) : Builtin.len_ A ty V = Builtin.len_ #[t] ty #[v] := by
  unfold Builtin.len_
  simp only [h1, h3, List.getElem?_toArray, List.getElem?_cons_zero]

theorem delete_args {A : Array Nat} {V : Array Value} {t ty : Nat} {v u : Value} (h1 : A[0]? = some t) (h3 : V[0]? = some v) (h4 : V[1]? = some u) : Builtin.delete_ A ty V = Builtin.delete_ #[t] ty #[v, u] := by
  unfold Builtin.delete_
  simp only [h1, h3, h4, List.getElem?_toArray, List.getElem?_cons_zero, List.getElem?_cons_succ]

theorem copy_args {A : Array Nat} {V : Array Value} {t t2 ty : Nat} {v u : Value} (h1 : A[0]? = some t) (h3 : V[0]? = some v) (h4 : V[1]? = some u) : Builtin.copy_ A ty V = Builtin.copy_ #[t, t2] ty #[v, u] := by
  unfold Builtin.copy_
  simp only [h1, h3, h4, List.getElem?_toArray, List.getElem?_cons_zero, List.getElem?_cons_succ]

theorem clear_args {A : Array Nat} {V : Array Value} {t ty : Nat} {v : Value} (h1 : A[0]? = some t) (h3 : V[0]? = some v) : Builtin.clear_ A ty V = Builtin.clear_ #[t] ty #[v] := by
  unfold Builtin.clear_
  simp only [h1, h3, List.getElem?_toArray, List.getElem?_cons_zero]

theorem args_sound {ρ : Operand → Option AV} (hρ : ρRel cx S w ρ σ) {as : Array Operand} {args : List AV} (h : mapO ρ as.toList = some args) :
    (as.map σ).toList.length = args.length ∧ ∀ (i : Nat) (x : AV) (v : Value), args[i]? = some x → (as.map σ).toList[i]? = some v → ARel cx S w x v := by
  obtain ⟨h1, h2⟩ := mapO_spec h
  refine ⟨by simp [h1], fun i x v hx hv => ?_⟩
  simp only [Array.toList_map, List.getElem?_map, Option.map_eq_some_iff] at hv
  obtain ⟨q, hq, rfl⟩ := hv
  exact hρ _ _ (h2 i q x hq hx)

theorem index_info {P : Program} {e : Nat} (h : bytesOf P e ≠ 0) : (P.info? e).isSome = true := by
  unfold bytesOf at h
  split at h
  · rename_i i hi; simp [hi]
  · exact absurd rfl h

theorem zeroOk_info {e : Nat} (h : zeroOk C e = true) : (C.P.info? e).isSome = true := by
  obtain ⟨i, z, hi, _⟩ := zeroOk_some h; simp [hi]

theorem append_info {e : Nat} {x : AV} {ys : List D} {r : AV × St} (h : opAppend C e S x ys = some r) : (C.P.info? e).isSome = true := by
  unfold opAppend at h
  split at h
  · split at h
    · split at h
      · assumption
      · cases h
    · split at h
      · rename_i hc; exact zeroOk_info hc.2.2.2.2
      · cases h
  · split at h
    · split at h
      · assumption
      · cases h
    · split at h
      · rename_i hc; exact zeroOk_info hc.2.2.2.2.2
      · cases h
  · split at h
    · split at h
      · assumption
      · cases h
    · split at h
      · rename_i hc; exact zeroOk_info hc.2.2.2.2.2
      · cases h
  · cases h

/-- 'append': the two kinds of what is put behind. -/
theorem builtin_append_sound (hR : ObjOk R) (hS : SRel R cx S w) {A : Array Nat} {V : Array Value} {t t2 e ty : Nat} {x y r : AV} {ys : List D} {S' : St} {v u : Value} (h : opAppend C e S x ys = some (r, S')) (he : elemSl C.P t = some e) (hei : (C.P.info? e).isSome = true) (h2 : okSrc C t2 = true)
    (hx : ARel cx S w x v) (hy : ARel cx S w y u) (hk : dataOf y = some ys ∨ ∃ s, y = .d (.str s) ∧ ys = s.map fun c => .int .u8 c.toNat)
    (a1 : A[0]? = some t) (a2 : A[1]? = some t2) (a3 : V[0]? = some v) (a4 : V[1]? = some u) :
    ∃ cx' w' z, (Builtin.append_ A ty V).run C.P w = .ok z w' ∧ SRel R cx' S' w' ∧ Ext cx S w cx' S' w' ∧ ARel cx' S' w' r z := by
  rw [append_args a1 a2 a3 a4]
  rcases hk with hk | ⟨s, rfl, rfl⟩
  · have hlen : (Builtin.lenOf u).run C.P w = .ok ys.length w := by
      obtain ⟨tight, hr⟩ := dataSl hk hy
      obtain ⟨a, cap, rfl, _⟩ := slI hr
      rfl
    refine append_sound hR hS h he h2 hx hlen (fun hs => (src_sound hk hy hs).2) (fun h0 sz => ?_) hei
    subst h0
    obtain ⟨tight, hr⟩ := dataSl hk hy
    obtain ⟨a, cap, rfl, _⟩ := slI hr
    cases a <;> simp [Builtin.firstCells, loadCells, loadCellsFrom]
  · obtain ⟨b, rfl, rfl⟩ := hy.str
    have hbl : b.data.toList.length = b.size := Array.length_toList
    refine append_sound hR hS h he h2 hx ?_ (fun hs => ?_) (fun h0 sz => ?_) hei
    · simp only [Builtin.lenOf, List.length_map, Sem.run_pure]; rw [hbl]
    · obtain ⟨fs, f1, f2⟩ := first_str (P := C.P) (w := w) (fr := cx.fr) b
      by_cases hne : b.data.toList = []
      · refine ⟨[], fun w' _ => ?_, by simp [hne], by simp, by simp [hne], by simp [hne]⟩
        simp only [hne, List.map_nil, List.length_nil, Builtin.firstCells, Sem.run_pure]
        congr 1
        apply Array.ext'
        simp [ByteArray.data_extract]
      · have hsz : szOf C.P e = 1 := by
          cases hb : b.data.toList with
          | nil => exact absurd hb hne
          | cons c l => rw [hb] at hs; simp only [List.map_cons, sizes, Bool.and_eq_true] at hs; have := Nat.eq_of_beq_eq_true hs.1; simpa [D.cells] using this.symm
        rw [hsz]
        refine ⟨fs, fun w' _ => ?_, f2⟩
        have : (Builtin.firstCells 1 b.size (.string b)).run C.P w' = .ok fs.toArray w' := by
          simp only [Builtin.firstCells, Sem.run_pure, Result.ok.injEq, and_true] at f1 ⊢
          exact f1
        simp only [List.length_map, hbl]
        exact this
    · simp only [Builtin.firstCells, Sem.run_pure]
      congr 1
      apply Array.ext'
      simp [ByteArray.data_extract]

theorem dOpt_sound {ρ : Operand → Option AV} (hρ : ρRel cx S w ρ σ) {x : Option Operand} {y : Option D} (h : dOpt ρ x = some y) : optRel cx w y (x.map σ) := by
  unfold dOpt at h
  split at h
  · simp only [Option.some.injEq] at h; subst h; trivial
  · rename_i o'
    split at h
    · rename_i z hz
      simp only [Option.some.injEq] at h; subst h
      exact (hρ _ _ hz).dd
    · cases h

theorem builtin_sound (hR : ObjOk R) (hS : SRel R cx S w) {b : Builtin} {A : Array Nat} {args : List AV} {us : List Value} {ty : Nat} {cs : Array Bool} {nx : Nxt} (h : builtinAV C b A S args = some nx)
    (hl : us.length = args.length) (hr : ∀ (i : Nat) (x : AV) (v : Value), args[i]? = some x → us[i]? = some v → ARel cx S w x v) :
    ∃ v S' cx' w' u, nx = .val v S' ∧ (Go.builtin b A ty cs us.toArray).run C.P w = .ok (.value u) w' ∧ SRel R cx' S' w' ∧ Ext cx S w cx' S' w' ∧ ARel cx' S' w' v u := by
  have hrefl := Ext.refl (cx := cx) w hS.wf
  unfold builtinAV at h
  split at h
  · rename_i x
    split at h
    · rename_i t ht
      split at h
      · rename_i hlt
        simp only [Option.map_eq_some_iff] at h
        obtain ⟨n, hn, rfl⟩ := h
        match us, hl with
        | [u], _ =>
          have := len_sound hS (ty := ty) hlt hn (hr 0 x u rfl rfl)
          refine ⟨_, _, cx, w, .int .i64 n, rfl, ?_, hS, hrefl, .of_int _ _⟩
          simp only [Go.builtin]
          rw [len_args (v := u) ht rfl]
          exact exV this
      · cases h
    · cases h
  · rename_i x y
    split at h
    · rename_i t ht
      cases ht2 : A[1]? with
      | none => simp [ht2] at h
      | some t2 =>
        simp only [ht2] at h
        by_cases hsrc : okSrc C t2 = true
        · rw [if_pos hsrc] at h
          match us, hl with
          | [u1, u2], _ =>
            have key : ∀ {e : Nat} {ys : List D} {r : AV × St}, elemSl C.P t = some e → opAppend C e S x ys = some r → (dataOf y = some ys ∨ ∃ s, y = .d (.str s) ∧ ys = s.map fun c => .int .u8 c.toNat) → nx = .val r.1 r.2 →
                ∃ v S' cx' w' u, nx = .val v S' ∧ (Go.builtin .append A ty cs [u1, u2].toArray).run C.P w = .ok (.value u) w' ∧ SRel R cx' S' w' ∧ Ext cx S w cx' S' w' ∧ ARel cx' S' w' v u := by
              intro e ys r he hop hk hnx
              by_cases hei : (C.P.info? e).isSome = true
              · obtain ⟨cx', w', z, k1, k2, k3, k4⟩ := builtin_append_sound (ty := ty) (A := A) (V := [u1, u2].toArray) hR hS (r := r.1) (S' := r.2) hop he hei hsrc (hr 0 x u1 rfl rfl) (hr 1 y u2 rfl rfl) hk ht ht2 rfl rfl
                exact ⟨r.1, r.2, cx', w', z, hnx, exV k1, k2, k3, k4⟩
              · -- only where nothing is put behind
                exfalso
                exact hei (append_info hop)
            have e1 : Builtin.append_ A ty [u1, u2].toArray = Builtin.append_ #[t, t2] ty #[u1, u2] := append_args ht ht2 rfl rfl
            have fin : ∀ {r : AV × St}, nx = .val r.1 r.2 → (∃ cx' w' z, (Builtin.append_ #[t, t2] ty #[u1, u2]).run C.P w = .ok z w' ∧ SRel R cx' r.2 w' ∧ Ext cx S w cx' r.2 w' ∧ ARel cx' r.2 w' r.1 z) →
                ∃ v S' cx' w' u, nx = .val v S' ∧ (Go.builtin .append A ty cs [u1, u2].toArray).run C.P w = .ok (.value u) w' ∧ SRel R cx' S' w' ∧ Ext cx S w cx' S' w' ∧ ARel cx' S' w' v u := by
              intro r hnx ⟨cx', w', z, k1, k2, k3, k4⟩
              rw [← e1] at k1
              exact ⟨r.1, r.2, cx', w', z, hnx, exV k1, k2, k3, k4⟩
            split at h
            · rename_i e he
              split at h
              · rename_i id g off len lim sz
                simp only [Option.map_eq_some_iff] at h
                obtain ⟨r, hop, rfl⟩ := h
                exact fin rfl (appendRow_sound hR hS hop he hsrc (hr 0 _ u1 rfl rfl) (hr 1 y u2 rfl rfl))
              · cases hrow : C.rowT t with
                | true =>
                  simp only [hrow, cond_true] at h
                  split at h
                  · simp only [Option.map_eq_some_iff] at h
                    obtain ⟨r, hop, rfl⟩ := h
                    have hn := nilsI (hr 0 _ u1 rfl rfl).dd
                    subst hn
                    exact fin rfl (appendFirst_sound hR hS (xs := []) (cap := 0) hop he hsrc (fun sz _ => ⟨[], fun w' _ => by simp [Builtin.firstCells], ⟨by simp, by simp, by simp, by simp⟩⟩) rfl (hr 0 _ _ rfl rfl) (hr 1 y u2 rfl rfl))
                  · rename_i xs
                    simp only [Option.map_eq_some_iff] at h
                    obtain ⟨r, hop, rfl⟩ := h
                    have hd := (hr 0 _ u1 rfl rfl).dd
                    obtain ⟨a, cap, rfl, _, hcap, _⟩ := slI hd
                    exact fin rfl (appendFirst_sound hR hS hop he hsrc (fun sz hs => first_heap hd hs) (hcap rfl) (hr 0 _ _ rfl rfl) (hr 1 y u2 rfl rfl))
                  · cases h
                | false =>
                  simp only [hrow, cond_false] at h
                  split at h
                  · rename_i ys hd
                    simp only [Option.map_eq_some_iff] at h
                    obtain ⟨r, hop, rfl⟩ := h
                    exact key he hop (.inl hd) rfl
                  · rename_i hd
                    split at h
                    · simp only [Option.map_eq_some_iff] at h
                      obtain ⟨r, hop, rfl⟩ := h
                      exact key he hop (.inr ⟨_, rfl, rfl⟩) rfl
                    · cases h
            · cases h
        · rw [if_neg hsrc] at h; cases h
    · cases h
  · rename_i x y
    split at h
    · rename_i t ht
      split at h
      · rename_i e he
        match us, hl with
        | [u1, u2], _ =>
          obtain ⟨n, S', cx', w', rfl, k1, k2, k3⟩ := copy_sound (t2 := 0) (ty := ty) hR hS h he (hr 0 x u1 rfl rfl) (hr 1 y u2 rfl rfl)
          refine ⟨_, S', cx', w', .int .i64 n, rfl, ?_, k2, k3, .of_int _ _⟩
          simp only [Go.builtin]
          rw [copy_args (t2 := 0) (v := u1) (u := u2) ht rfl rfl]
          exact exV k1
      · cases h
    · cases h
  · rename_i x
    split at h
    · rename_i t ht
      split at h
      · rename_i e he
        match us, hl with
        | [u], _ =>
          obtain ⟨S', cx', w', rfl, k1, k2, k3⟩ := clear_sound (ty := ty) hR hS h he (hr 0 x u rfl rfl)
          refine ⟨_, S', cx', w', .tuple #[], rfl, ?_, k2, k3, .tup [] [] rfl (by simp)⟩
          simp only [Go.builtin]
          rw [clear_args (v := u) ht rfl]
          exact exV k1
      · cases h
    · cases h
  · rename_i m k
    split at h
    · rename_i t ht
      simp only [Option.map_eq_some_iff] at h
      obtain ⟨S', hd, rfl⟩ := h
      match us, hl with
      | [u1, u2], _ =>
        obtain ⟨w', k1, k2, k3⟩ := delete_sound (ty := ty) hR hS hd (hr 0 m u1 rfl rfl) (hr 1 _ u2 rfl rfl).dd
        refine ⟨_, S', cx, w', .tuple #[], rfl, ?_, k2, k3, .tup [] [] rfl (by simp)⟩
        simp only [Go.builtin]
        rw [delete_args (v := u1) (u := u2) ht rfl rfl]
        exact exV k1
    · cases h
  · simp only [Option.map_eq_some_iff] at h
    obtain ⟨r, hm, rfl⟩ := h
    obtain ⟨v, rest, k, z, e1, e2, e3⟩ := minmax_sound (P := C.P) (cx := cx) (S := S) (w := w) (g := Builtin.min2) (fun k a b => by simp [Builtin.min2]) _ args r us rfl hm hl hr
    subst e1; subst e2
    refine ⟨_, _, cx, w, .int k z, rfl, ?_, hS, hrefl, .of_int _ _⟩
    exact exV (by simpa [Builtin.min_] using e3)
  · simp only [Option.map_eq_some_iff] at h
    obtain ⟨r, hm, rfl⟩ := h
    obtain ⟨v, rest, k, z, e1, e2, e3⟩ := minmax_sound (P := C.P) (cx := cx) (S := S) (w := w) (g := Builtin.max2) (fun k a b => by simp [Builtin.max2]) _ args r us rfl hm hl hr
    subst e1; subst e2
    refine ⟨_, _, cx, w, .int k z, rfl, ?_, hS, hrefl, .of_int _ _⟩
    exact exV (by simpa [Builtin.max_] using e3)
  · cases h

end
end Go.Ev

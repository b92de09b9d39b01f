import Derived.Test.YtdelaagbhhnniaaGreatDoorEvOp4
namespace Go.Ev
set_option linter.unusedVariables false
set_option linter.unusedSimpArgs false

theorem Pw.append {α : Type} {Rl : α → Value → Prop} {cs ds : List α} {vs us : List Value} (h : Pw Rl cs vs) (k : Pw Rl ds us) : Pw Rl (cs ++ ds) (vs ++ us) := by
  obtain ⟨h1, h2, h3⟩ := h
  obtain ⟨k1, k2, k3⟩ := k
  refine ⟨by simp [h1, k1], fun v hv => (List.mem_append.1 hv).elim (h2 v) (k2 v), fun i x v hx hv => ?_⟩
  rw [List.getElem?_append] at hx hv
  by_cases hi : i < cs.length
  · rw [if_pos hi] at hx; rw [if_pos (by omega)] at hv; exact h3 i x v hx hv
  · rw [if_neg hi] at hx; rw [if_neg (by omega), h1] at hv; exact k3 _ x v hx hv

theorem Pw.nil {α : Type} {Rl : α → Value → Prop} : Pw Rl ([] : List α) [] := ⟨rfl, by simp, by simp⟩

theorem Pw.seg {α : Type} {Rl : α → Value → Prop} {cs : List α} {vs : List Value} (h : Pw Rl cs vs) (a n : Nat) : Pw Rl ((cs.drop a).take n) ((vs.drop a).take n) := by
  obtain ⟨h1, h2, h3⟩ := h
  refine ⟨by simp [h1], fun v hv => h2 v (List.mem_of_mem_drop (List.mem_of_mem_take hv)), fun i x v hx hv => ?_⟩
  by_cases hi : i < n
  · rw [List.getElem?_take, if_pos hi, List.getElem?_drop] at hx hv
    exact h3 _ x v hx hv
  · rw [List.getElem?_take, if_neg hi] at hx; cases hx

theorem Pw.flat {α : Type} {Rl : α → Value → Prop} {z : List α} {zv : List Value} (h : Pw Rl z zv) : ∀ n, Pw Rl (List.replicate n z).flatten (List.replicate n zv).flatten
  | 0 => Pw.nil
  | n + 1 => by simp only [List.replicate_succ, List.flatten_cons]; exact h.append (Pw.flat h n)

theorem zeros_flat (Z : Array Value) (n : Nat) (h : 0 < Z.size) : ((Array.range (n * Z.size)).map (Z[· % Z.size]!)).toList = (List.replicate n Z.toList).flatten := by
  rw [Array.toList_map, Array.toList_range]
  induction n with
  | zero => simp
  | succ n ih =>
    rw [List.replicate_succ', List.flatten_append, ← ih, Nat.succ_mul, List.range_add, List.map_append]
    congr 1
    simp only [List.flatten_cons, List.flatten_nil, List.append_nil, List.map_map]
    apply List.ext_getElem?
    intro i
    by_cases hi : i < Z.size
    · have : (n * Z.size + i) % Z.size = i := by
        rw [Nat.mul_comm, Nat.mul_add_mod, Nat.mod_eq_of_lt hi]
      simp [hi, this]
    · simp [hi]

theorem chunk_length {α : Type} (sz : Nat) : ∀ (n : Nat) (l : List α), (chunk sz n l).length = n
  | 0, l => rfl
  | n + 1, l => by simp [chunk, chunk_length sz n]

theorem chunk_get {α : Type} (sz : Nat) : ∀ (n : Nat) (l : List α) (i : Nat), i < n → (chunk sz n l)[i]? = some ((l.drop (i * sz)).take sz)
  | 0, l, i, h => by omega
  | n + 1, l, 0, h => by simp [chunk]
  | n + 1, l, i + 1, h => by
    simp only [chunk, List.getElem?_cons_succ]
    rw [chunk_get sz n (l.drop sz) i (by omega), List.drop_drop, Nat.succ_mul, Nat.add_comm]

theorem elem_CRel {w : World} {fr : Nat → Nat → Prop} {ag : Bool} {c : List D} {vs : List Value} {x : D} (h : elemD ag c = some x) (hp : Pw (DRel w fr) c vs) : CRel w fr x vs ∧ x.cells.length = c.length := by
  obtain ⟨h1, h2, h3⟩ := hp
  have hd : ∀ (i : Nat) (x : D) (v : Value), c[i]? = some x → vs[i]? = some v → x.isAgg = false ∧ CRel w fr x [v] := fun i x v hx hv => by
    have hr := h3 i x v hx hv
    have ho := h2 v (List.mem_of_getElem? hv)
    refine ⟨by rw [hr.2]; exact one_agg ho, ?_⟩
    have := hr.1
    rwa [one_cells ho] at this
  unfold elemD at h
  cases ag with
  | true =>
    simp at h; subst h
    refine ⟨.agg c vs h1 h2 (fun x hx => ?_) (fun i x v hx hv => (hd i x v hx hv).2), rfl⟩
    obtain ⟨i, hi⟩ := List.mem_iff_getElem?.1 hx
    have hlt : i < vs.length := by rw [h1]; exact (List.getElem?_eq_some_iff.1 hi).1
    exact (hd i x _ hi (List.getElem?_eq_getElem hlt)).1
  | false =>
    match c, h with
    | [y], h =>
      simp at h; subst h
      match vs, h1 with
      | [v], _ =>
        obtain ⟨q1, q2⟩ := hd 0 y v rfl rfl
        exact ⟨q2, by cases y <;> first | rfl | simp [D.isAgg] at q1⟩

/-- A slice of data made of flat cells that lie in a block that nobody writes. -/
theorem slab {w : World} {fr : Nat → Nat → Prop} {ag tight : Bool} {sz len cap b : Nat} {cs : List D} {vs : List Value} {arr : Array Value} {el : Nat} {xs : List D} (h : mapO (elemD ag) (chunk sz len cs) = some xs)
    (hp : Pw (DRel w fr) cs vs) (hl : cs.length = len * sz) (hb : ∀ (i : Nat) (v : Value), vs[i]? = some v → w.cell? ⟨b, i, none⟩ = some v ∧ ¬ fr b i) (hc : len ≤ cap) (ht : tight = true → cap = len) :
    DRel w fr (.sl xs tight) (.slice (some ⟨b, 0, none⟩) len cap) := by
  obtain ⟨h1, h2⟩ := mapO_spec h
  rw [chunk_length] at h1
  subst h1
  refine slM hc ht (fun hne => ⟨b, 0, sz, fun i => (vs.drop (i * sz)).take sz, rfl, fun i x hx => ?_, fun i hi => ?_, fun i x hx => ?_, fun i j u hi hu => ?_⟩)
  · have hi := (List.getElem?_eq_some_iff.1 hx).1
    have := (elem_CRel (h2 i _ x (chunk_get sz _ cs i hi) hx) (hp.seg (i * sz) sz)).2
    rw [this]
    have hle : (i + 1) * sz ≤ xs.length * sz := Nat.mul_le_mul_right sz hi
    rw [Nat.succ_mul] at hle
    simp; omega
  · have hle : (i + 1) * sz ≤ xs.length * sz := Nat.mul_le_mul_right sz hi
    rw [Nat.succ_mul] at hle
    simp [hp.1]; omega
  · have hi := (List.getElem?_eq_some_iff.1 hx).1
    exact (elem_CRel (h2 i _ x (chunk_get sz _ cs i hi) hx) (hp.seg (i * sz) sz)).1
  · rw [Nat.zero_add]
    by_cases hj : j < sz
    · rw [List.getElem?_take, if_pos hj, List.getElem?_drop] at hu
      exact hb _ u hu
    · rw [List.getElem?_take, if_neg hj] at hu; cases hu

theorem fillD_length {α : Type} {cellsOf : AV → Option (List α)} {pl : Nat → Option (Nat × Nat)} : ∀ (ps : List (Nat × AV)) (cs cs' : List α), fillD cellsOf pl cs ps = some cs' → cs'.length = cs.length
  | [], cs, cs', h => by simp [fillD] at h; subst h; rfl
  | (i, v) :: ps, cs, cs', h => by
    simp only [fillD] at h
    split at h
    · split at h
      · rw [fillD_length ps _ _ h, setAt_length]
      · cases h
    · cases h

theorem buildSlice_sound {R : ObjR} (hR : ObjOk R) {C : Cfg} {cx : Cx} {S : St} {w : World} (hS : SRel R cx S w) {ρ : Operand → Option AV} {σ : Operand → Value} (hρ : ρRel cx S w ρ σ) {t e len : Nat} {parts : Array (Nat × Operand)}
    {ps : List (Nat × AV)} {z : List D} {cs xs : List D} {ag : Bool} (he : elemSl C.P t = some e) (hps : evals ρ parts = some ps) (hsm : len * szOf C.P e ≤ 16777216)
    (hz : (if len * szOf C.P e = 0 then some [] else match zeroOf C.P e with | some z => if z.cells.length = szOf C.P e then some z.cells else none | none => none) = some z)
    (hf : fillD cellsD (fun i => some (i * szOf C.P e, szOf C.P e)) (List.replicate len z).flatten ps = some cs) (hag : aggO C.P e = some ag) (hx : mapO (elemD ag) (chunk (szOf C.P e) len cs) = some xs) :
    ∃ u w', (Instr.buildSlice t len (parts.map fun (i, x) => (i, σ x))).run C.P w = .ok u w' ∧ SRel R cx S w' ∧ Ext cx S w cx S w' ∧ ARel cx S w' (.d (.sl xs true)) u := by
  obtain ⟨e1, e2⟩ := evals_sound hρ hps
  have hu := elemSl_some he
  obtain ⟨d, hd⟩ := aggO_under hag
  obtain ⟨ie, hie⟩ := underlying_info hd
  have hse : szOf C.P e = ie.size := by simp [szOf, hie]
  -- the zero cells
  obtain ⟨Z, hZ, hPz, hlz⟩ : ∃ Z : Array Value, ((len * ie.size = 0 ∧ Z = #[]) ∨ (len * ie.size ≠ 0 ∧ ∃ zv, (zeroValue e).run C.P w = .ok zv w ∧ Z = zv.cells)) ∧
      Pw (DRel w cx.fr) (List.replicate len z).flatten ((Array.range (len * ie.size)).map (Z[· % Z.size]!)).toList ∧ (List.replicate len z).flatten.length = len * ie.size := by
    by_cases h0 : len * szOf C.P e = 0
    · rw [if_pos h0] at hz
      simp only [Option.some.injEq] at hz
      subst hz
      rw [hse] at h0
      refine ⟨#[], .inl ⟨h0, rfl⟩, ?_, by simp [h0]⟩
      rw [h0]
      simp
      exact Pw.nil
    · rw [if_neg h0] at hz
      split at hz
      · rename_i z0 hz0
        split at hz
        · rename_i hl0
          simp only [Option.some.injEq] at hz
          subst hz
          obtain ⟨zv, r1, r2⟩ := zero_sound hz0 w cx.fr
          have hpw := r2.cellsPw
          have hsz : zv.cells.size = ie.size := by rw [← hse, ← hl0, ← hpw.1]; simp
          refine ⟨zv.cells, ?_, ?_, ?_⟩
          · exact .inr ⟨by rw [← hse]; exact h0, zv, r1, rfl⟩
          · rw [← hsz, zeros_flat _ _ (by rw [hsz]; rw [hse] at h0; exact Nat.pos_of_ne_zero (fun q => h0 (by rw [q, Nat.mul_zero])))]
            exact hpw.flat len
          · simp [hl0, hse]
        · cases hz
      · cases hz
  obtain ⟨arr', f1, f2⟩ := fill_sound (Rl := DRel w cx.fr) ps (parts.map fun (i, x) => (i, σ x)).toList _ cs _ hf e1 (fun i p u hp hu => ⟨(e2 i p u hp hu).1, fun ds hds => by
    unfold cellsD at hds
    split at hds
    · rename_i y hy
      simp only [Option.some.injEq] at hds
      subst hds
      exact (toD_sound hy (e2 i p u hp hu).2).cellsPw
    · cases hds⟩) hPz
  have hold : ∀ b, b < w.heap.size → (w.alloc (.cells arr' e)).heap[b]? = w.heap[b]? := fun b hb => heap_alloc_old w _ hb
  have ext : Ext cx S w cx S (w.alloc (.cells arr' e)) := Ext.old hS (by rw [size_alloc]; omega) hold rfl rfl rfl
  refine ⟨.slice (some ⟨w.heap.size, 0, none⟩) len len, w.alloc (.cells arr' e), ?_, SRel.old hR hS (by rw [size_alloc]; omega) hold ext, ext, ?_⟩
  · have hsm' : ¬ len * ie.size > 2 ^ 24 := by rw [← hse]; have : (2 : Nat) ^ 24 = 16777216 := by decide
                                               omega
    rw [hse] at f1
    rcases hZ with ⟨h0, rfl⟩ | ⟨h0, zv, r1, rfl⟩
    · simp only [Instr.buildSlice, Sem.run_bind, run_und w hu, Result.andThen_ok, run_sizeOf' w hd, hse]
      rw [if_neg hsm', if_pos h0]
      simp only [Sem.run_bind, Sem.run_pure, Result.andThen_ok]
      rw [f1]
      simp only [newRow, Sem.run_bind, Sem.run_pure, run_newObj, Result.andThen_ok]
      rfl
    · simp only [Instr.buildSlice, Sem.run_bind, run_und w hu, Result.andThen_ok, run_sizeOf' w hd, hse]
      rw [if_neg hsm', if_neg h0]
      simp only [Sem.run_bind, Sem.run_pure, Result.andThen_ok, r1]
      rw [f1]
      simp only [newRow, Sem.run_bind, Sem.run_pure, run_newObj, Result.andThen_ok]
      rfl
  · refine .d _ _ (slab (vs := arr'.toList) (arr := arr') (el := e) hx ⟨f2.1, f2.2.1, fun i x v hx hv => (f2.2.2 i x v hx hv).mono ext.prot⟩ (by rw [fillD_length _ _ _ hf, hlz, hse]) (fun i v hv => ⟨?_, fun hf => ?_⟩) (Nat.le_refl _) (fun _ => rfl))
    · rw [cell_of (heap_alloc_new w _)]; simpa using hv
    · have := hS.lt _ _ hf; omega

end Go.Ev

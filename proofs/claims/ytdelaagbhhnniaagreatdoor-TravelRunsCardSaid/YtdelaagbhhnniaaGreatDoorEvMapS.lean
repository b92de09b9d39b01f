import Derived.Test.YtdelaagbhhnniaaGreatDoorEvSame
import Derived.Test.YtdelaagbhhnniaaGreatDoorEvRow
import Derived.Laws.StructEq
namespace Go.Ev
set_option linter.unusedVariables false
set_option linter.unusedSimpArgs false

theorem strI {w : World} {fr : Nat → Nat → Prop} {s : List UInt8} {v : Value} (h : DRel w fr (.str s) v) : ∃ b : ByteArray, v = .string b ∧ b.data.toList = s := by
  have := h.val rfl; cases this; exact ⟨_, rfl, rfl⟩

theorem bytes_ext {a b : ByteArray} (h : a.data.toList = b.data.toList) : a = b := by
  cases a; cases b
  simp only at h
  congr 1
  exact Array.toList_inj.1 h

theorem simple_eq {w : World} {fr : Nat → Nat → Prop} {k : D} {v u : Value} (hs : simpleD k = true) (h1 : DRel w fr k v) (h2 : DRel w fr k u) : v = u := by
  cases k <;> simp only [simpleD, Bool.false_eq_true] at hs
  · have a := h1.val rfl; have b := h2.val rfl; cases a; cases b; rfl
  · have a := h1.val rfl; have b := h2.val rfl; cases a; cases b; rfl
  · obtain ⟨a, rfl, ha⟩ := strI h1
    obtain ⟨b, rfl, hb⟩ := strI h2
    rw [bytes_ext (ha.trans hb.symm)]

theorem simple_bits {w : World} {fr : Nat → Nat → Prop} {k : D} {v : Value} (hs : simpleD k = true) (h : DRel w fr k v) (n : Nat) : Instr.sameBits n v v = true := by
  cases k <;> simp only [simpleD, Bool.false_eq_true] at hs
  · have a := h.val rfl; cases a; cases n <;> simp [Instr.sameBits]
  · have a := h.val rfl; cases a; cases n <;> simp [Instr.sameBits]
  · obtain ⟨a, rfl, ha⟩ := strI h
    cases n <;> simp [Instr.sameBits, bytes_eq]

/-- The two kinds of keys. -/
theorem keyOk_cases {P : Program} {t : Nat} {k : D} (h : keyOk P t k = true) : (simpleD k = true ∧ simpleT P t = true) ∨
    ∃ xs fs, k = .agg xs ∧ P.underlying t = some (.struct fs) ∧ (∀ x ∈ xs, simpleD x = true) ∧ ∀ f ∈ fs.toList, f.name ≠ "_" ∧ simpleT P f.type = true ∧ (partD P f.type xs f.offset).isSome = true := by
  cases k
  case agg xs =>
    right
    simp only [keyOk] at h
    split at h
    · rename_i fs hu
      simp only [Bool.and_eq_true, List.all_eq_true] at h
      refine ⟨xs, fs, rfl, hu, h.1, fun f hf => ?_⟩
      have := Array.all_eq_true_iff_forall_mem.1 h.2 f (by simpa using hf)
      simp only [Bool.and_eq_true, bne_iff_ne, ne_eq] at this
      exact ⟨this.1.1, this.1.2, this.2⟩
    · cases h
  all_goals
    left
    simp only [keyOk, Bool.and_eq_true] at h
    exact h

theorem key_eq {P : Program} {w : World} {fr : Nat → Nat → Prop} {t : Nat} {k : D} {v u : Value} (hk : keyOk P t k = true) (h1 : DRel w fr k v) (h2 : DRel w fr k u) : v = u := by
  rcases keyOk_cases hk with ⟨hs, _⟩ | ⟨xs, fs, rfl, _, hs, _⟩
  · exact simple_eq hs h1 h2
  · obtain ⟨vs, rfl, l1, _, c1⟩ := h1.aggI
    obtain ⟨us, rfl, l2, _, c2⟩ := h2.aggI
    congr 2
    apply List.ext_getElem (by omega)
    intro i q1 q2
    have hx := List.getElem?_eq_getElem (l := xs) (i := i) (by omega)
    exact simple_eq (hs _ (List.getElem_mem _)) (c1 i _ _ hx (List.getElem?_eq_getElem q1)) (c2 i _ _ hx (List.getElem?_eq_getElem q2))

theorem key_bits {P : Program} {w : World} {fr : Nat → Nat → Prop} {t : Nat} {k : D} {v : Value} (hk : keyOk P t k = true) (h1 : DRel w fr k v) (n : Nat) : Instr.sameBits (n + 1) v v = true := by
  rcases keyOk_cases hk with ⟨hs, _⟩ | ⟨xs, fs, rfl, _, hs, _⟩
  · exact simple_bits hs h1 _
  · obtain ⟨vs, rfl, l1, _, c1⟩ := h1.aggI
    simp only [Instr.sameBits, beq_self_eq_true, Bool.true_and, List.all_eq_true]
    intro p hp
    obtain ⟨i, hi⟩ := List.mem_iff_getElem?.1 hp
    simp only [List.getElem?_zip_eq_some] at hi
    obtain ⟨a, b⟩ := p
    simp only at hi ⊢
    have hab : a = b := by have := hi.1.symm.trans hi.2; simpa using this
    subst hab
    have hlt : i < vs.length := (List.getElem?_eq_some_iff.1 hi.1).1
    have hx := List.getElem?_eq_getElem (l := xs) (i := i) (by omega)
    exact simple_bits (hs _ (List.getElem_mem _)) (c1 i _ _ hx hi.1) _

theorem simpleT_cases {P : Program} {t : Nat} (h : simpleT P t = true) : P.underlying t = some .bool ∨ (∃ k, P.underlying t = some (.int k)) ∨ P.underlying t = some .string := by
  unfold simpleT at h
  split at h
  · exact .inl (by assumption)
  · exact .inr (.inl ⟨_, by assumption⟩)
  · exact .inr (.inr (by assumption))
  · cases h

theorem check_simple {P : Program} {w : World} {t : Nat} (h : simpleT P t = true) (b : Bool) (n : Nat) (v : Value) : (Instr.checkKey b (n + 1) t v).run P w = .ok () w := by
  rcases simpleT_cases h with hu | ⟨k, hu⟩ | hu <;> simp [Instr.checkKey, run_und w hu]

theorem check_key {P : Program} {w : World} {fr : Nat → Nat → Prop} {t : Nat} {k : D} {v : Value} (hk : keyOk P t k = true) (h1 : DRel w fr k v) (b : Bool) : (Instr.checkKey b 10000 t v).run P w = .ok () w := by
  rcases keyOk_cases hk with ⟨hs, ht⟩ | ⟨xs, fs, rfl, hu, hs, hf⟩
  · exact check_simple ht b 9999 v
  · obtain ⟨vs, rfl, l1, o1, c1⟩ := h1.aggI
    unfold Instr.checkKey
    simp only [Sem.run_bind, run_und w hu, Result.andThen_ok]
    rw [← Array.forIn_toList]
    generalize fs.toList = l at hf
    induction l with
    | nil => simp
    | cons f l ih =>
      obtain ⟨h2, h3, h4⟩ := hf f (by simp)
      obtain ⟨r, hr⟩ := Option.isSome_iff_exists.1 h4
      obtain ⟨u, e1, _⟩ := partD_sound (w := w) (fr := fr) hr vs l1 o1 c1
      simp only [List.forIn_cons, ne_eq, h2, not_false_eq_true, if_true, Sem.run_bind, e1, Result.andThen_ok, check_simple h3, Sem.run_pure]
      exact ih (fun f hf' => hf f (by simp [hf']))

/-- Entries and what lies in the map. -/
def EsR (w : World) (fr : Nat → Nat → Prop) (es : List (D × AV × Nat)) (ms : List MapEntry) : Prop :=
  ms.length = es.length ∧ ∀ (i : Nat) (p : D × AV × Nat) (m : MapEntry), es[i]? = some p → ms[i]? = some m → DRel w fr p.1 m.key

theorem EsR.tail {w : World} {fr : Nat → Nat → Prop} {p : D × AV × Nat} {es : List (D × AV × Nat)} {m : MapEntry} {ms : List MapEntry} (h : EsR w fr (p :: es) (m :: ms)) : EsR w fr es ms :=
  ⟨by have := h.1; simpa using this, fun i q r hq hr => h.2 (i + 1) q r (by simpa using hq) (by simpa using hr)⟩

/-- What the search gives. -/
def Found (ms : List MapEntry) (i0 : Nat) : Option (Nat × AV) → Option (Nat × Value) → Prop
  | none, r => r = none
  | some (i, _), r => ∃ m, i0 ≤ i ∧ ms[i - i0]? = some m ∧ r = some (i, m.val)

theorem findK_spec {P : Program} {t : Nat} {k : D} : ∀ {es : List (D × AV × Nat)} {i0 : Nat} {i : Nat} {v : AV}, findK P t k es i0 = some (some (i, v)) → ∃ b, i0 ≤ i ∧ es[i - i0]? = some (k, v, b)
  | [], i0, i, v, h => by simp [findK] at h
  | (x, u, b) :: l, i0, i, v, h => by
    simp only [findK] at h
    split at h
    · split at h
      · rename_i hs
        simp only [Option.some.injEq, Prod.mk.injEq] at h
        obtain ⟨rfl, rfl⟩ := h
        have := D.same_eq _ _ hs
        subst this
        exact ⟨b, Nat.le_refl _, by simp⟩
      · cases h
    · obtain ⟨b', h1, h2⟩ := findK_spec h
      refine ⟨b', by omega, ?_⟩
      rw [show i - i0 = (i - (i0 + 1)) + 1 by omega]
      simpa using h2
    · cases h

theorem asking_sound {P : Program} {w : World} {fr : Nat → Nat → Prop} {t : Nat} {k : D} {kv : Value} (hk : DRel w fr k kv) : ∀ {es : List (D × AV × Nat)} {ms : List MapEntry} {i0 : Nat} {r : Option (Nat × AV)}, EsR w fr es ms → findK P t k es i0 = some r →
    ∃ o, (Instr.findAsking t kv ms i0).run P w = .ok o w ∧ Found ms i0 r o
  | [], ms, i0, r, hE, h => by
    have : ms = [] := List.eq_nil_of_length_eq_zero (by rw [hE.1]; rfl)
    subst this
    simp only [findK, Option.some.injEq] at h; subst h
    exact ⟨none, by simp [Instr.findAsking], rfl⟩
  | (x, v, b) :: es, ms, i0, r, hE, h => by
    match ms, hE with
    | m :: ms, hE =>
      have hx := hE.2 0 _ m rfl rfl
      simp only [findK] at h
      split at h
      · rename_i he
        split at h
        · simp only [Option.some.injEq] at h; subst h
          have := eqvT_sound 20 t k x true kv m.key he hk hx 10000 (by omega)
          refine ⟨some (i0, m.val), ?_, m, Nat.le_refl _, by simp, rfl⟩
          have hq : (Op.equal t kv m.key).run P w = .ok true w := this
          simp [Instr.findAsking, hq]
        · cases h
      · rename_i he
        have := eqvT_sound 20 t k x false kv m.key he hk hx 10000 (by omega)
        have hq : (Op.equal t kv m.key).run P w = .ok false w := this
        obtain ⟨o, h1, h2⟩ := asking_sound hk hE.tail h
        refine ⟨o, by simp [Instr.findAsking, hq, h1], ?_⟩
        cases r with
        | none => exact h2
        | some p =>
          obtain ⟨i, v'⟩ := p
          obtain ⟨m', q1, q2, q3⟩ := h2
          refine ⟨m', by omega, ?_, q3⟩
          rw [show i - i0 = (i - (i0 + 1)) + 1 by omega]
          simpa using q2
      · cases h

theorem sameNow_sound {P : Program} {w : World} {fr : Nat → Nat → Prop} {t : Nat} {k x : D} {kv xv : Value} {d : TypeDesc} {b : Bool} (ht : P.underlying t = some d) (hs : simpleT P t = true) (he : eqvT P 20 t k x = some b) (hk : DRel w fr k kv) (hx : DRel w fr x xv) :
    Instr.sameNow d kv xv = some b := by
  rcases simpleT_cases hs with hu | ⟨kk, hu⟩ | hu <;> rw [ht] at hu <;> simp only [Option.some.injEq] at hu <;> subst hu
  · unfold eqvT at he
    rw [ht] at he
    split at he <;> first | (rename_i q; cases q; done) | skip
    · have h1 := hk.val rfl; have h2 := hx.val rfl; cases h1; cases h2
      simpa [Instr.sameNow] using he
    · cases he
  · unfold eqvT at he
    rw [ht] at he
    split at he <;> first | (rename_i q; cases q; done) | skip
    · have h1 := hk.val rfl; have h2 := hx.val rfl; cases h1; cases h2
      simpa [Instr.sameNow] using he
    · cases he
  · unfold eqvT at he
    rw [ht] at he
    split at he <;> first | (rename_i q; cases q; done) | skip
    · obtain ⟨a, rfl, rfl⟩ := strI hk
      obtain ⟨c, rfl, rfl⟩ := strI hx
      simpa [Instr.sameNow, bytes_eq] using he
    · cases he

theorem now_sound {P : Program} {w : World} {fr : Nat → Nat → Prop} {t : Nat} {k : D} {kv : Value} {d : TypeDesc} (ht : P.underlying t = some d) (hs : simpleT P t = true) (hk : DRel w fr k kv) : ∀ {es : List (D × AV × Nat)} {ms : List MapEntry} {i0 : Nat} {r : Option (Nat × AV)}, EsR w fr es ms → findK P t k es i0 = some r →
    ∃ o, Instr.findNow d kv ms i0 = some o ∧ Found ms i0 r o
  | [], ms, i0, r, hE, h => by
    have : ms = [] := List.eq_nil_of_length_eq_zero (by rw [hE.1]; rfl)
    subst this
    simp only [findK, Option.some.injEq] at h; subst h
    exact ⟨none, by simp [Instr.findNow], rfl⟩
  | (x, v, b) :: es, ms, i0, r, hE, h => by
    match ms, hE with
    | m :: ms, hE =>
      have hx := hE.2 0 _ m rfl rfl
      simp only [findK] at h
      split at h
      · rename_i he
        split at h
        · simp only [Option.some.injEq] at h; subst h
          exact ⟨some (i0, m.val), by simp only [Instr.findNow, sameNow_sound ht hs he hk hx], m, Nat.le_refl _, by simp, rfl⟩
        · cases h
      · rename_i he
        obtain ⟨o, h1, h2⟩ := now_sound ht hs hk hE.tail h
        refine ⟨o, by simp only [Instr.findNow, sameNow_sound ht hs he hk hx, h1], ?_⟩
        cases r with
        | none => exact h2
        | some p =>
          obtain ⟨i, v'⟩ := p
          obtain ⟨m', q1, q2, q3⟩ := h2
          refine ⟨m', by omega, ?_, q3⟩
          rw [show i - i0 = (i - (i0 + 1)) + 1 by omega]
          simpa using q2
      · cases h

/-- The search for a key. -/
theorem findKey_sound {P : Program} {w : World} {fr : Nat → Nat → Prop} {t : Nat} {k : D} {kv : Value} (hok : keyOk P t k = true) (hk : DRel w fr k kv) {es : List (D × AV × Nat)} {ms : List MapEntry} {r : Option (Nat × AV)} (hE : EsR w fr es ms) (h : findK P t k es 0 = some r) :
    ∃ o, (Instr.findKey t kv ms).run P w = .ok o w ∧ Found ms 0 r o := by
  rcases keyOk_cases hok with ⟨hs, ht⟩ | ⟨xs, fs, rfl, hu, hs, hf⟩
  · obtain ⟨d, hd⟩ : ∃ d, P.underlying t = some d := by
      rcases simpleT_cases ht with hu | ⟨kk, hu⟩ | hu <;> exact ⟨_, hu⟩
    obtain ⟨o, h1, h2⟩ := now_sound hd ht hk hE h
    exact ⟨o, by simp only [Instr.findKey, Sem.run_bind, run_und w hd, Result.andThen_ok, h1, Sem.run_pure], h2⟩
  · cases ms with
    | nil =>
      have : es = [] := List.eq_nil_of_length_eq_zero (by rw [← hE.1]; rfl)
      subst this
      simp only [findK, Option.some.injEq] at h; subst h
      exact ⟨none, by simp [Instr.findKey, run_und w hu, Instr.findNow], rfl⟩
    | cons m ms =>
      obtain ⟨o, h1, h2⟩ := asking_sound (P := P) (t := t) hk hE h
      refine ⟨o, ?_, h2⟩
      obtain ⟨vs, rfl, _⟩ := hk.aggI
      simp only [Instr.findKey, Sem.run_bind, run_und w hu, Result.andThen_ok, Instr.findNow, Instr.sameNow, h1]

end Go.Ev

import Derived.Test.YtdelaagbhhnniaaGreatDoorEvBin
namespace Go.Ev
set_option linter.unusedVariables false
set_option linter.unusedSimpArgs false

theorem elemSl_some {P : Program} {t e : Nat} (h : elemSl P t = some e) : P.underlying t = some (.slice e) := by
  unfold elemSl at h
  split at h
  · simp only [Option.some.injEq] at h; subst h; assumption
  · cases h
theorem intT_some {P : Program} {t : Nat} {k : IntKind} (h : intT P t = some k) : P.underlying t = some (.int k) := by
  unfold intT at h
  split at h
  · simp only [Option.some.injEq] at h; subst h; assumption
  · cases h
theorem strT_some {P : Program} {t : Nat} (h : strT P t = true) : P.underlying t = some .string := by
  unfold strT at h
  split at h
  · assumption
  · cases h
theorem fieldOf_some {P : Program} {s f fo ft : Nat} (h : fieldOf P s f = some (fo, ft)) : ∃ fs : Array Field, ∃ x : Field, P.underlying s = some (.struct fs) ∧ fs[f]? = some x ∧ x.offset = fo ∧ x.type = ft := by
  unfold fieldOf at h
  split at h
  · rename_i fs hu
    simp only [Option.map_eq_some_iff, Prod.mk.injEq] at h
    obtain ⟨x, h1, h2, h3⟩ := h
    exact ⟨fs, x, hu, h1, h2, h3⟩
  · cases h

theorem szOf_pos {P : Program} {t : Nat} (h : szOf P t ≠ 0) (w : World) : (sizeOf t).run P w = .ok (szOf P t) w := by
  unfold szOf at *
  split at h
  · rename_i i hi; simp [sizeOf, typeInfo, hi]
  · exact absurd rfl h

theorem fieldAddr_sound {C : Cfg} {cx : Cx} {S : St} {w : World} {s fld fo ft : Nat} {x : AV} {v : Value} (hf : fieldOf C.P s fld = some (fo, ft)) (hz : szOf C.P ft ≠ 0)
    (hx : ARel cx S w x v) : (∀ id g off, x = .ptr id g off → ∃ u, (Instr.fieldAt s v fld).run C.P w = .ok u w ∧ ARel cx S w (.ptr id g (off + fo)) u) ∧
      (∀ y off, x = .eptr y off → ∃ u, (Instr.fieldAt s v fld).run C.P w = .ok u w ∧ ARel cx S w (.eptr y (off + fo)) u) := by
  obtain ⟨fs, f, hu, h1, h2, h3⟩ := fieldOf_some hf
  have run : ∀ b o, (Instr.fieldAt s (.pointer (some ⟨b, o, none⟩)) fld).run C.P w = .ok (.pointer (some ⟨b, o + fo, none⟩)) w := by
    intro b o
    simp only [Instr.fieldAt, Sem.run_bind, run_und w hu, Result.andThen_ok, h1, Instr.sureAddr, Sem.run_pure, fieldPlace, h3, szOf_pos hz w, hz, if_false, h2, add_at]
  constructor
  · intro id g off hq
    subst hq
    cases hx with
    | ptr _ _ _ b hn hp => exact ⟨_, run b off, .ptr id g (off + fo) b hn hp⟩
  · intro y off hq
    subst hq
    cases hx with
    | eptr _ _ b o vs hc hm => exact ⟨_, run b (o + off), by rw [Nat.add_assoc]; exact .eptr y (off + fo) b o vs hc hm⟩

theorem field_sound {C : Cfg} {cx : Cx} {S : St} {w : World} {s fld fo ft : Nat} {r : AV} {v : Value} (hf : fieldOf C.P s fld = some (fo, ft)) :
    (∀ cs, ARel cx S w (.agg cs) v → Ev.part C.P ft cs fo = some r → ∃ u, (Instr.field s v fld).run C.P w = .ok u w ∧ ARel cx S w r u) ∧
    (∀ cs y, ARel cx S w (.d (.agg cs)) v → partD C.P ft cs fo = some y → ∃ u, (Instr.field s v fld).run C.P w = .ok u w ∧ ARel cx S w (.d y) u) := by
  obtain ⟨fs, f, hu, h1, h2, h3⟩ := fieldOf_some hf
  have run : ∀ (vs : List Value) u, (Go.part ft vs.toArray fo).run C.P w = .ok u w → (Instr.field s (.agg vs.toArray) fld).run C.P w = .ok u w := by
    intro vs u hq
    simp only [Instr.field, Sem.run_bind, run_und w hu, Result.andThen_ok, h1, asAgg, Sem.run_pure, h3, h2]
    exact hq
  constructor
  · intro cs hx hp
    cases hx with
    | agg _ vs hl ho h =>
      obtain ⟨u, a1, a2⟩ := partV_sound hp vs hl ho h
      exact ⟨u, run vs u a1, a2⟩
  · intro cs y hx hp
    obtain ⟨vs, rfl, hl, ho, h⟩ := hx.dd.aggI
    obtain ⟨u, a1, a2⟩ := partD_sound hp vs hl ho h
    exact ⟨u, run vs u a1, .d y u a2⟩

/-- What is known of a slice of data. -/
theorem slI {w : World} {fr : Nat → Nat → Prop} {xs : List D} {tight : Bool} {v : Value} (h : DRel w fr (.sl xs tight) v) :
    ∃ a cap, v = .slice a xs.length cap ∧ xs.length ≤ cap ∧ (tight = true → cap = xs.length) ∧ (xs ≠ [] → ∃ b off sz, ∃ vs : Nat → List Value, a = some ⟨b, off, none⟩ ∧
      (∀ (i : Nat) (x : D), xs[i]? = some x → x.cells.length = sz) ∧ (∀ i, i < xs.length → (vs i).length = sz) ∧ (∀ (i : Nat) (x : D), xs[i]? = some x → CRel w fr x (vs i)) ∧
      ∀ (i j : Nat) (u : Value), i < xs.length → (vs i)[j]? = some u → w.cell? ⟨b, off + i * sz + j, none⟩ = some u ∧ ¬ fr b (off + i * sz + j)) := by
  have h1 := h.val rfl
  cases h1 with
  | sl0 a cap _ ht => exact ⟨a, cap, rfl, Nat.zero_le _, fun q => by simp [ht q], fun q => absurd rfl q⟩
  | sl _ _ b off cap sz vs hne hcap ht hsz hlen hx hc => exact ⟨_, cap, rfl, hcap, ht, fun _ => ⟨b, off, sz, vs, rfl, hsz, hlen, hx, hc⟩⟩

theorem slM {w : World} {fr : Nat → Nat → Prop} {xs : List D} {tight : Bool} {a : Option Addr} {cap : Nat} (hcap : xs.length ≤ cap) (ht : tight = true → cap = xs.length)
    (h : xs ≠ [] → ∃ b off sz, ∃ vs : Nat → List Value, a = some ⟨b, off, none⟩ ∧
      (∀ (i : Nat) (x : D), xs[i]? = some x → x.cells.length = sz) ∧ (∀ i, i < xs.length → (vs i).length = sz) ∧ (∀ (i : Nat) (x : D), xs[i]? = some x → CRel w fr x (vs i)) ∧
      ∀ (i j : Nat) (u : Value), i < xs.length → (vs i)[j]? = some u → w.cell? ⟨b, off + i * sz + j, none⟩ = some u ∧ ¬ fr b (off + i * sz + j)) : DRel w fr (.sl xs tight) (.slice a xs.length cap) := by
  refine DRel.of_cell ?_ rfl
  by_cases hx : xs = []
  · subst hx; exact .sl0 a cap tight (fun q => by simpa using ht q)
  · obtain ⟨b, off, sz, vs, rfl, h1, h2, h3, h4⟩ := h hx
    exact .sl xs tight b off cap sz vs hx hcap ht h1 h2 h3 h4

theorem nilsI {w : World} {fr : Nat → Nat → Prop} {v : Value} (h : DRel w fr .nils v) : v = .slice none 0 0 := by
  have := h.val rfl; cases this; rfl

theorem nilsSl {w : World} {fr : Nat → Nat → Prop} {v : Value} (h : DRel w fr .nils v) : DRel w fr (.sl [] true) v := by
  have := nilsI h; subst this
  exact DRel.of_cell (.sl0 none 0 true (fun _ => rfl)) rfl

theorem dataSl {cx : Cx} {S : St} {w : World} {x : AV} {xs : List D} {v : Value} (h : dataOf x = some xs) (hx : ARel cx S w x v) : ∃ tight, DRel w cx.fr (.sl xs tight) v := by
  unfold dataOf at h
  split at h
  · simp only [Option.some.injEq] at h; subst h; exact ⟨_, nilsSl hx.dd⟩
  · simp only [Option.some.injEq] at h; subst h; exact ⟨_, hx.dd⟩
  · simp only [Option.some.injEq] at h; subst h
    cases hx with
    | tsl _ _ b off cap hn h hp => exact ⟨false, h⟩
  · cases h

/-- An element of a slice of data. -/
theorem elem_sound {C : Cfg} {cx : Cx} {S : St} {w : World} {t e : Nat} {xs : List D} {tight : Bool} {v : Value} {k : IntKind} {n : Int} {y : D} (hx : DRel w cx.fr (.sl xs tight) v)
    (he : elemSl C.P t = some e) (hag : (aggO C.P e).isSome = true) (hn : 0 ≤ n) (hy : xs[n.toNat]? = some y) (hsz : y.cells.length = szOf C.P e) :
    ∃ u, (Instr.indexAt t v (.int k n)).run C.P w = .ok u w ∧ ARel cx S w (.eptr y 0) u := by
  obtain ⟨a, cap, rfl, hcap, ht, hm⟩ := slI hx
  have hlt : n.toNat < xs.length := (List.getElem?_eq_some_iff.1 hy).1
  obtain ⟨b, off, sz, vs, rfl, h1, h2, h3, h4⟩ := hm (by intro q; subst q; simp at hlt)
  have hs : sz = szOf C.P e := by rw [← hsz]; exact (h1 _ _ hy).symm
  obtain ⟨ag, hag⟩ := Option.isSome_iff_exists.1 hag
  obtain ⟨d, hd⟩ := aggO_under hag
  refine ⟨.pointer (some ⟨b, off + n.toNat * sz + 0, none⟩), ?_, .eptr y 0 b (off + n.toNat * sz) (vs n.toNat) (h3 _ _ hy) (fun j u hu => h4 _ j u hlt hu)⟩
  have hlt' : n < (xs.length : Int) := by omega
  have hu := elemSl_some he
  simp only [Instr.indexAt, asIntOf, Sem.run_bind, Sem.run_pure, Result.andThen_ok, run_und w hu]
  rw [if_pos ⟨hn, hlt'⟩]
  simp only [Sem.run_bind, run_sizeOf' w hd, Result.andThen_ok, Sem.run_pure, add_at, Nat.add_zero, hs]

theorem indexAddr_sound {C : Cfg} {cx : Cx} {S : St} {w : World} {t : Nat} {x i r : AV} {v u : Value} (h : opIndexAddr C t x i = some r) (hx : ARel cx S w x v) (hi : ARel cx S w i u) :
    ∃ z, (Instr.indexAt t v u).run C.P w = .ok z w ∧ ARel cx S w r z := by
  unfold opIndexAddr at h
  split at h
  · rename_i k n e he
    have := hi.int; subst this
    split at h
    · rename_i hc
      simp only [Bool.and_eq_true, decide_eq_true_eq] at hc
      obtain ⟨hn, hag⟩ := hc
      split at h
      · split at h
        · rename_i xs tight y hy
          split at h
          · rename_i hsz
            simp only [Option.some.injEq] at h; subst h
            exact elem_sound hx.dd he hag hn hy hsz
          · cases h
        · cases h
      · split at h
        · rename_i xs tok y hy
          split at h
          · rename_i hsz
            simp only [Option.some.injEq] at h; subst h
            cases hx with
            | tsl _ _ b off cap hnn hd hp => exact elem_sound hd he hag hn hy hsz
          · cases h
        · cases h
      · split at h
        · rename_i id gen off len lim sz hlt
          obtain ⟨hlt, rfl⟩ := hlt
          simp only [Option.some.injEq] at h; subst h
          cases hx with
          | msl _ _ _ _ _ _ b cap hnn hll hcap h63 hp =>
            obtain ⟨ag, hag⟩ := Option.isSome_iff_exists.1 hag
            obtain ⟨d, hd⟩ := aggO_under hag
            refine ⟨.pointer (some ⟨b, off + n.toNat * szOf C.P e, none⟩), ?_, .ptr id gen _ b hnn (fun q => (hp q).1)⟩
            have hlt' : n < (len : Int) := by omega
            have hu := elemSl_some he
            simp only [Instr.indexAt, asIntOf, Sem.run_bind, Sem.run_pure, Result.andThen_ok, run_und w hu]
            rw [if_pos ⟨hn, hlt'⟩]
            simp only [Sem.run_bind, run_sizeOf' w hd, Result.andThen_ok, Sem.run_pure, add_at]
        · cases h
      · cases h
    · cases h
  · cases h

theorem index_sound {P : Program} {cx : Cx} {S : St} {w : World} {t : Nat} {s : List UInt8} {k : IntKind} {n : Int} {c : UInt8} {v : Value} (hx : ARel cx S w (.d (.str s)) v) (hn : 0 ≤ n) (ht : strT P t = true)
    (hc : s[n.toNat]? = some c) : (Instr.index t v (.int k n)).run P w = .ok (.int .u8 c.toNat) w := by
  obtain ⟨b, rfl, rfl⟩ := hx.str
  have hb : b[n.toNat]? = some c := by
    have hlt : n.toNat < b.data.toList.length := (List.getElem?_eq_some_iff.1 hc).1
    have hlen : b.data.toList.length = b.size := Array.length_toList
    have hlt' : n.toNat < b.size := by omega
    rw [getElem?_pos b n.toNat hlt']
    rw [List.getElem?_eq_getElem hlt] at hc
    have h2 : b[n.toNat] = b.data.toList[n.toNat] := by simp [ByteArray.getElem_eq_getElem_data]
    rw [h2]; exact hc
  simp only [Instr.index, asIntOf, Sem.run_bind, Sem.run_pure, Result.andThen_ok, run_und w (strT_some ht)]
  rw [if_pos hn, hb]
  rfl

end Go.Ev

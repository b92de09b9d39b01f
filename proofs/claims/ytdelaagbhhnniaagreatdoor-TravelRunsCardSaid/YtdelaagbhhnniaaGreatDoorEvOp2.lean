import Derived.Test.YtdelaagbhhnniaaGreatDoorEvOp1
namespace Go.Ev
set_option linter.unusedVariables false
set_option linter.unusedSimpArgs false

theorem asNat_some {cx : Cx} {S : St} {w : World} {x : D} {n : Nat} {v : Value} (h : asNat x = some n) (hx : DRel w cx.fr x v) : ∃ k, v = .int k n := by
  unfold asNat at h
  split at h
  · split at h
    · rename_i k m hm
      simp only [Option.some.injEq] at h; subst h
      have := hx.val rfl; cases this
      exact ⟨k, by rw [Int.toNat_of_nonneg hm]⟩
    · cases h
  · cases h

/-- An operand that may be left out. -/
def optRel (cx : Cx) (w : World) : Option D → Option Value → Prop
  | none, none => True
  | some x, some v => DRel w cx.fr x v
  | _, _ => False

theorem run_bound {P : Program} {w : World} {k : IntKind} {n y : Nat} {code : BoundsCode} (h : n ≤ y) : (Instr.sliceBound (.int k n) y code).run P w = .ok n w := by
  simp only [Instr.sliceBound, asIntOf, Sem.run_bind, Sem.run_pure, Result.andThen_ok]
  rw [if_pos ⟨by omega, by omega⟩]
  simp

theorem bounds_sound {P : Program} {cx : Cx} {w : World} {isS : Bool} {len cap h l : Nat} {lo hi : Option D} {vl vh : Option Value} (h1 : boundO hi len = some h) (h2 : boundO lo 0 = some l) (rl : optRel cx w lo vl) (rh : optRel cx w hi vh)
    (hle : l ≤ h) (hc : h ≤ cap) : (Instr.sliceBounds isS len cap vl vh none).run P w = .ok (l, h, cap) w := by
  cases hi with
  | none =>
    cases vh with
    | some v => exact rh.elim
    | none =>
      simp only [boundO, Option.some.injEq] at h1; subst h1
      cases lo with
      | none =>
        cases vl with
        | some v => exact rl.elim
        | none => simp only [boundO, Option.some.injEq] at h2; subst h2; rfl
      | some x =>
        cases vl with
        | none => exact rl.elim
        | some v =>
          obtain ⟨k, rfl⟩ := asNat_some (cx := cx) (S := pureSt) h2 rl
          simp only [Instr.sliceBounds, Sem.run_bind, Sem.run_pure, Result.andThen_ok, run_bound hle]
  | some xh =>
    cases vh with
    | none => exact rh.elim
    | some vh =>
      obtain ⟨kh, rfl⟩ := asNat_some (cx := cx) (S := pureSt) h1 rh
      cases lo with
      | none =>
        cases vl with
        | some v => exact rl.elim
        | none => simp only [boundO, Option.some.injEq] at h2; subst h2; simp only [Instr.sliceBounds, Sem.run_bind, Sem.run_pure, Result.andThen_ok, run_bound hc]
      | some x =>
        cases vl with
        | none => exact rl.elim
        | some v =>
          obtain ⟨k, rfl⟩ := asNat_some (cx := cx) (S := pureSt) h2 rl
          simp only [Instr.sliceBounds, Sem.run_bind, Sem.run_pure, Result.andThen_ok, run_bound hle, run_bound hc]

theorem bounds3_sound {P : Program} {cx : Cx} {w : World} {isS : Bool} {len cap h l m : Nat} {lo hi : Option D} {x3 : D} {v3 : Value} {vl vh : Option Value} (h1 : boundO hi len = some h) (h2 : boundO lo 0 = some l) (h3 : asNat x3 = some m)
    (rl : optRel cx w lo vl) (rh : optRel cx w hi vh) (r3 : DRel w cx.fr x3 v3) (hs : hi.isSome = true) (hle : l ≤ h) (hc : h ≤ m) (hm : m ≤ cap) : (Instr.sliceBounds isS len cap vl vh (some v3)).run P w = .ok (l, h, m) w := by
  obtain ⟨xh, rfl⟩ := Option.isSome_iff_exists.1 hs
  obtain ⟨k3, rfl⟩ := asNat_some (cx := cx) (S := pureSt) h3 r3
  cases vh with
  | none => exact rh.elim
  | some vh =>
    obtain ⟨kh, rfl⟩ := asNat_some (cx := cx) (S := pureSt) h1 rh
    cases lo with
    | none =>
      cases vl with
      | some v => exact rl.elim
      | none => simp only [boundO, Option.some.injEq] at h2; subst h2; simp only [Instr.sliceBounds, Sem.run_bind, Sem.run_pure, Result.andThen_ok, run_bound hc, run_bound hm]
    | some x =>
      cases vl with
      | none => exact rl.elim
      | some v =>
        obtain ⟨k, rfl⟩ := asNat_some (cx := cx) (S := pureSt) h2 rl
        simp only [Instr.sliceBounds, Sem.run_bind, Sem.run_pure, Result.andThen_ok, run_bound hle, run_bound hc, run_bound hm]

/-- A piece of a slice of data. -/
theorem piece_sound {cx : Cx} {w : World} {xs : List D} {tight tight' : Bool} {a : Option Addr} {cap l h m sz : Nat} (hd : DRel w cx.fr (.sl xs tight) (.slice a xs.length cap)) (hsz : headSz sz xs = true)
    (hle : l ≤ h) (hh : h ≤ xs.length) (hm : h ≤ m) (hmc : m ≤ cap) (ht : tight' = true → m = h) :
    DRel w cx.fr (.sl ((xs.take h).drop l) tight') (.slice (if m = l then a else a.map (·.add (l * sz))) (h - l) (m - l)) := by
  obtain ⟨a', cap', hv, hcap, ht', hx⟩ := slI hd
  simp only [Value.slice.injEq, true_and] at hv
  obtain ⟨rfl, rfl⟩ := hv
  have hlen : ((xs.take h).drop l).length = h - l := by simp; omega
  rw [← hlen]
  refine slM (by omega) (fun q => by have := ht q; omega) (fun hne => ?_)
  have hlt : l < h := by
    rcases Nat.lt_or_ge l h with q | q
    · exact q
    · exfalso; apply hne; apply List.eq_nil_of_length_eq_zero; omega
  obtain ⟨b, off, sz', vs, rfl, h1, h2, h3, h4⟩ := hx (by intro q; subst q; simp at hh; omega)
  have hs : sz' = sz := by
    cases xs with
    | nil => simp at hh; omega
    | cons x xs =>
      have := h1 0 x rfl
      simp only [headSz] at hsz
      rw [← this]; exact Nat.eq_of_beq_eq_true hsz
  subst hs
  rw [if_neg (by omega)]
  have hg : ∀ (i : Nat), i < h - l → ((xs.take h).drop l)[i]? = xs[l + i]? := fun i hi => by
    rw [List.getElem?_drop, List.getElem?_take, if_pos (by omega)]
  refine ⟨b, off + l * sz', sz', fun i => vs (l + i), by simp [add_at], fun i x hi => ?_, fun i hi => ?_, fun i x hi => ?_, fun i j u hi hu => ?_⟩
  · have hlt := (List.getElem?_eq_some_iff.1 hi).1
    rw [hlen] at hlt
    rw [hg i hlt] at hi
    exact h1 _ _ hi
  · exact h2 _ (by omega)
  · have hlt := (List.getElem?_eq_some_iff.1 hi).1
    rw [hlen] at hlt
    rw [hg i hlt] at hi
    exact h3 _ _ hi
  · have := h4 (l + i) j u (by omega) hu
    rw [Nat.add_mul, ← Nat.add_assoc] at this
    exact this

theorem run_sliceAt {P : Program} {w : World} {t e : Nat} (hu : P.underlying t = some (.slice e)) (x : Value) (lo hi mx : Option Value) :
    (Instr.sliceAt t x lo hi mx).run P w = (Instr.slice t x lo hi mx).run P w := by
  simp [Instr.sliceAt, run_und w hu]
theorem run_sliceAtS {P : Program} {w : World} {t : Nat} (hu : P.underlying t = some .string) (x : Value) (lo hi mx : Option Value) :
    (Instr.sliceAt t x lo hi mx).run P w = (Instr.slice t x lo hi mx).run P w := by
  simp [Instr.sliceAt, run_und w hu]

theorem cutSl_sound {C : Cfg} {cx : Cx} {w : World} {t : Nat} {xs : List D} {tight : Bool} {lo hi mx : Option D} {r : D} {v : Value} {vl vh vm : Option Value} (h : cutSl C t xs tight lo hi mx = some r)
    (hx : DRel w cx.fr (.sl xs tight) v) (rl : optRel cx w lo vl) (rh : optRel cx w hi vh) (rm : optRel cx w mx vm) :
    ∃ u, (Instr.sliceAt t v vl vh vm).run C.P w = .ok u w ∧ DRel w cx.fr r u := by
  obtain ⟨a, cap, rfl, hcap, ht, _⟩ := slI hx
  unfold cutSl at h
  split at h
  · rename_i e he
    have hu := elemSl_some he
    rw [run_sliceAt hu]
    split at h
    · rename_i hc
      simp only [Bool.and_eq_true] at hc
      obtain ⟨hsz, hd⟩ := hc
      obtain ⟨d, hd⟩ := Option.isSome_iff_exists.1 hd
      split at h
      · rename_i hh l h1 h2
        cases vm with
        | some _ => exact rm.elim
        | none =>
        split at h
        · rename_i hq
          simp only [Bool.and_eq_true, decide_eq_true_eq] at hq
          simp only [Option.some.injEq] at h; subst h
          refine ⟨_, ?_, piece_sound (m := cap) hx hsz hq.1 hq.2 (by omega) (Nat.le_refl _) (fun q => ?_)⟩
          · simp only [Instr.slice, Sem.run_bind, run_und w hu, Result.andThen_ok, bounds_sound (P := C.P) (isS := true) (len := xs.length) (cap := cap) h1 h2 rl rh hq.1 (by omega), run_sizeOf' w hd, Sem.run_pure]
          · simp only [Bool.and_eq_true] at q
            have := Nat.eq_of_beq_eq_true q.2
            have := ht q.1
            omega
        · cases h
      · rename_i hh l m' h1 h2
        cases vm with
        | none => exact rm.elim
        | some vm =>
        split at h
        · rename_i m h3
          split at h
          · rename_i hq
            simp only [Bool.and_eq_true, decide_eq_true_eq] at hq
            obtain ⟨⟨⟨q1, q2⟩, q3⟩, q4⟩ := hq
            simp only [Option.some.injEq] at h; subst h
            refine ⟨_, ?_, piece_sound (m := m) hx hsz q2 (by omega) q3 (by omega) (fun q => (Nat.eq_of_beq_eq_true q).symm)⟩
            simp only [Instr.slice, Sem.run_bind, run_und w hu, Result.andThen_ok, bounds3_sound (P := C.P) (isS := true) (len := xs.length) (cap := cap) h1 h2 h3 rl rh rm q1 q2 q3 (by omega), run_sizeOf' w hd, Sem.run_pure]
          · cases h
        · cases h
      · cases h
    · cases h
  · cases h

theorem cutRow_sound {C : Cfg} {cx : Cx} {S : St} {w : World} {t id g off len lim sz : Nat} {r : AV} {lo hi mx : Option D} {v : Value} {vl vh vm : Option Value} (h : cutRow C t id g off len lim sz lo hi mx = some r)
    (hx : ARel cx S w (.msl id g off len lim sz) v) (rl : optRel cx w lo vl) (rh : optRel cx w hi vh) (rm : optRel cx w mx vm) :
    ∃ u, (Instr.sliceAt t v vl vh vm).run C.P w = .ok u w ∧ ARel cx S w r u := by
  cases hx with
  | msl _ _ _ _ _ _ b cap hn hl hcap h63 hp =>
  unfold cutRow at h
  split at h
  · rename_i e he
    have hu := elemSl_some he
    rw [run_sliceAt hu]
    split at h
    · rename_i hc
      obtain ⟨rfl, hd, hpos⟩ := hc
      obtain ⟨d, hd⟩ := Option.isSome_iff_exists.1 hd
      split at h
      · rename_i hh l h1 h2
        cases vm with
        | some _ => exact rm.elim
        | none =>
        split at h
        · rename_i hq
          have hrun : (Instr.slice t (.slice (some ⟨b, off, none⟩) len cap) vl vh none).run C.P w = .ok (.slice (if cap = l then some ⟨b, off, none⟩ else some ⟨b, off + l * szOf C.P e, none⟩) (hh - l) (cap - l)) w := by
            simp only [Instr.slice, Sem.run_bind, run_und w hu, Result.andThen_ok, bounds_sound (P := C.P) (isS := true) (len := len) (cap := cap) h1 h2 rl rh hq.1 (by omega), run_sizeOf' w hd, Sem.run_pure, Option.map_some, add_at]
          refine ⟨_, hrun, ?_⟩
          split at h
          · rename_i hlh
            have hz : hh - l = 0 := by omega
            simp only [Option.some.injEq] at h; subst h
            rw [hz]
            exact .d _ _ (DRel.of_cell (.sl0 _ _ false (fun q => by cases q)) rfl)
          · rename_i hlh
            simp only [Option.some.injEq] at h; subst h
            rw [if_neg (by omega)]
            refine .msl id g _ _ _ _ b _ hn (by omega) (by omega) (by omega) (fun hc => ?_)
            obtain ⟨p1, p2, p3⟩ := hp hc
            have hm : off + l * szOf C.P e + (cap - l) * szOf C.P e = off + cap * szOf C.P e := by
              rw [Nat.add_assoc, ← Nat.add_mul]; congr 2; omega
            rw [hm]
            exact ⟨p1, p2, p3⟩
        · cases h
      · rename_i hh l m' h1 h2
        cases vm with
        | none => exact rm.elim
        | some vm =>
        split at h
        · rename_i m h3
          split at h
          · rename_i hq
            obtain ⟨q1, q2, q3, q4⟩ := hq
            have hrun : (Instr.slice t (.slice (some ⟨b, off, none⟩) len cap) vl vh (some vm)).run C.P w = .ok (.slice (if m = l then some ⟨b, off, none⟩ else some ⟨b, off + l * szOf C.P e, none⟩) (hh - l) (m - l)) w := by
              simp only [Instr.slice, Sem.run_bind, run_und w hu, Result.andThen_ok, bounds3_sound (P := C.P) (isS := true) (len := len) (cap := cap) h1 h2 h3 rl rh rm q1 q2 q3 (by omega), run_sizeOf' w hd, Sem.run_pure, Option.map_some, add_at]
            refine ⟨_, hrun, ?_⟩
            split at h
            · rename_i hlh
              subst hlh
              simp only [Option.some.injEq] at h; subst h
              rw [Nat.sub_self]
              exact .d _ _ (DRel.of_cell (.sl0 _ _ _ (fun q => by have := Nat.eq_of_beq_eq_true q; omega)) rfl)
            · simp only [Option.some.injEq] at h; subst h
              exact .any _
          · cases h
        · cases h
      · cases h
    · cases h
  · cases h

theorem slice_sound {C : Cfg} {cx : Cx} {S : St} {w : World} {t : Nat} {x r : AV} {lo hi mx : Option D} {v : Value} {vl vh vm : Option Value} (h : opSlice C t x lo hi mx = some r)
    (hx : ARel cx S w x v) (rl : optRel cx w lo vl) (rh : optRel cx w hi vh) (rm : optRel cx w mx vm) :
    ∃ u, (Instr.sliceAt t v vl vh vm).run C.P w = .ok u w ∧ ARel cx S w r u := by
  unfold opSlice at h
  split at h
  · rename_i s
    obtain ⟨b, rfl, rfl⟩ := hx.str
    have hlen : b.data.toList.length = b.size := Array.length_toList
    split at h
    · cases h
    · rename_i hc
      simp only [Bool.or_eq_true, not_or, Bool.not_eq_true, Option.isSome_eq_false_iff, Option.isNone_iff_eq_none, Bool.not_eq_false'] at hc
      obtain ⟨rfl, hst⟩ := hc
      cases vm with
      | some _ => exact rm.elim
      | none =>
      have hu := strT_some hst
      split at h
      · rename_i hh l h1 h2
        split at h
        · rename_i hq
          simp only [Bool.and_eq_true, decide_eq_true_eq] at hq
          simp only [Option.some.injEq] at h; subst h
          rw [hlen] at h1
          refine ⟨.string (b.extract l hh), ?_, .of_str' _ _ ?_⟩
          · rw [run_sliceAtS hu]
            simp only [Instr.slice, Sem.run_bind, run_und w hu, Result.andThen_ok, Option.isSome_none, Bool.false_eq_true, if_false]
            rw [bounds_sound (P := C.P) (isS := false) (len := b.size) (cap := b.size) h1 h2 rl rh hq.1 (by omega)]
            rfl
          · simp [ByteArray.data_extract, List.extract_eq_take_drop, List.drop_take]
        · cases h
      · cases h
  · simp only [Option.map_eq_some_iff] at h
    obtain ⟨y, hy, rfl⟩ := h
    obtain ⟨u, h1, h2⟩ := cutSl_sound hy (nilsSl hx.dd) rl rh rm
    exact ⟨u, h1, .d y u h2⟩
  · simp only [Option.map_eq_some_iff] at h
    obtain ⟨y, hy, rfl⟩ := h
    obtain ⟨u, h1, h2⟩ := cutSl_sound hy hx.dd rl rh rm
    exact ⟨u, h1, .d y u h2⟩
  · rename_i xs tok
    split at h
    · simp only [Option.bind_eq_some_iff] at h
      obtain ⟨e, he, h⟩ := h
      split at h
      · rename_i hd
        simp only [Option.some.injEq] at h; subst h
        cases vl with | some _ => exact rl.elim | none =>
        cases vh with | some _ => exact rh.elim | none =>
        cases vm with | some _ => exact rm.elim | none =>
        obtain ⟨d, hd⟩ := Option.isSome_iff_exists.1 hd
        refine ⟨v, ?_, hx⟩
        cases hx with
        | tsl _ _ b off cap hn hdd hp =>
          have hu := elemSl_some he
          obtain ⟨a, cap', hv, hcap, _⟩ := slI hdd
          simp only [Value.slice.injEq] at hv
          rw [run_sliceAt hu]
          simp only [Instr.slice, Sem.run_bind, run_und w hu, Result.andThen_ok, bounds_sound (P := C.P) (cx := cx) (w := w) (isS := true) (len := xs.length) (cap := cap) (lo := none) (hi := none) (vl := none) (vh := none) (h := xs.length) (l := 0) rfl rfl trivial trivial (by omega) (by omega), run_sizeOf' w hd, Sem.run_pure, Nat.zero_mul, Nat.sub_zero, Option.map_some, add_at, Nat.add_zero]
          split <;> rfl
      · cases h
    · simp only [Option.map_eq_some_iff] at h
      obtain ⟨y, hy, rfl⟩ := h
      cases hx with
      | tsl _ _ b off cap hn hdd hp =>
        obtain ⟨u, h1, h2⟩ := cutSl_sound hy hdd rl rh rm
        exact ⟨u, h1, .d y u h2⟩
  · exact cutRow_sound h hx rl rh rm
  · cases h

end Go.Ev

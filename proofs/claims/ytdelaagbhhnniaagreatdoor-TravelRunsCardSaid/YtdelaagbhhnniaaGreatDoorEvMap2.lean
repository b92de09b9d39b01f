import Derived.Test.YtdelaagbhhnniaaGreatDoorEvMapS
import Derived.MapKept
namespace Go.Ev
set_option linter.unusedVariables false
set_option linter.unusedSimpArgs false

/-- A map's block is written anew. -/
theorem mwrite_sound {R : ObjR} (hR : ObjOk R) {cx : Cx} {S : St} {w w' : World} (h : SRel R cx S w) {id : Nat} {M M' : MapD} (hg : S.H.get id = some (.map M))
    (hs : w'.heap.size = w.heap.size) (ho : ∀ b, b ≠ cx.bm id → w'.heap[b]? = w.heap[b]?) (h1 : w'.os = w.os) (h2 : w'.tape = w.tape) (h3 : w'.output = w.output)
    {ms' : Array MapEntry} {clk' : Nat} (hb : w'.heap[cx.bm id]? = some (.map ms' clk')) (hd : ms'.size = M'.es.length ∧ clk' = M'.clk ∧ ∀ (i : Nat) (p : D × AV × Nat) (m : MapEntry), M'.es[i]? = some p → ms'[i]? = some m → m.born = p.2.2)
    (hv : ∀ (i : Nat) (p : D × AV × Nat) (m : MapEntry), M'.es[i]? = some p → ms'[i]? = some m → DRel w cx.fr p.1 m.key ∧ ARel cx S w p.2.1 m.val) :
    SRel R cx { S with H := S.H.set id (.map M') } w' ∧ Ext cx S w cx { S with H := S.H.set id (.map M') } w' := by
  obtain ⟨c1, c2, ms0, clk0, c3, c4, c5⟩ := h.maps id M hg
  have hlive : live S id := by simp [live, cur, hg]
  have hcur : ∀ i, cur { S with H := S.H.set id (.map M') } i = cur S i := fun i => by
    unfold cur
    simp only [AL.get_set]
    by_cases hi : id = i
    · subst hi; simp [hg]
    · simp [hi]
  have e : Ext cx S w cx { S with H := S.H.set id (.map M') } w' := by
    refine ⟨by omega, h1, h2, h3, Nat.le_refl _, fun b o v hf hc => ?_, fun b hlt hn => ?_, fun i b hl hf => ?_, fun i gi _ hi => ⟨gi, by
      unfold isIt at *
      simp only [AL.get_set] at hi
      split at hi
      · cases hi
      · exact hi⟩, fun _ _ _ _ _ _ hf => hf, fun i g' hi hg' => ?_⟩
    · have hne : b ≠ cx.bm id := fun q => hf (by rw [q]; exact c2 o)
      exact ⟨cell_old (ho b hne) hc, hf⟩
    · have hne : b ≠ cx.bm id := fun q => notIt hg (by simp) (hn id hlive ((c1 b).2 q))
      exact ⟨ho b hne, fun _ => Iff.rfl⟩
    · have hl' : live S i := by unfold live at *; rwa [hcur i] at hl
      exact ⟨fun _ => ⟨hl', .inl hf⟩, fun hge => absurd (h.wf i hl') (by show ¬ i < S.nx; omega)⟩
    · rw [hcur i] at hg'
      exact ⟨g', hg', Nat.le_refl _, fun _ => ⟨rfl, rfl, rfl⟩⟩
  have hl' : ∀ i, live { S with H := S.H.set id (.map M') } i → live S i := fun i hl => by unfold live at *; rwa [hcur i] at hl
  have hne : ∀ i, live S i → i ≠ id → ∀ b, cx.fp i b → b ≠ cx.bm id := fun i hi hne b hf hq => hne (h.sep i id b hi hlive hf ((c1 b).2 hq))
  refine ⟨⟨fun i hi => h.wf i (hl' i hi), fun i b hi => ?_, fun i g' cs1 hi => ?_, fun i es hi => ?_, fun i k x hi => ?_, fun i en hi => ?_, fun i i' b a1 a2 f1 f2 => h.sep i i' b (hl' i a1) (hl' i' a2) f1 f2, fun b o hf => by rw [hs]; exact h.lt b o hf, hR.stat _ _ _ _ h.stat e.prot⟩, e⟩
  · simp only [AL.get_set] at hi
    by_cases q : id = i
    · subst q; exact h.dis id _ hg
    · rw [if_neg q] at hi; exact h.dis i b hi
  · simp only [AL.get_set] at hi
    by_cases q : id = i
    · subst q; simp at hi
    · rw [if_neg q] at hi
      obtain ⟨d1, d2, arr2, el2, d3, d4, d5⟩ := h.cells i g' cs1 hi
      refine ⟨d1, d2, arr2, el2, ?_, d4, fun j x hx => by
        obtain ⟨v, v1, v2, v3⟩ := d5 j x hx
        exact ⟨v, v1, v2.mono e, v3⟩⟩
      rw [ho _ (hne i (by simp [live, cur, hi]) (Ne.symm q) _ ((d1 _).2 rfl))]; exact d3
  · simp only [AL.get_set] at hi
    by_cases q : id = i
    · subst q
      simp only [if_true, Option.some.injEq, Blk.map.injEq] at hi
      subst hi
      exact ⟨c1, c2, ms', clk', hb, hd, fun j p m hp hm => by
        obtain ⟨v1, v2⟩ := hv j p m hp hm
        exact ⟨v1.mono e.prot, v2.mono e⟩⟩
    · rw [if_neg q] at hi
      obtain ⟨d1, d2, ms, clk, d3, d4, d5⟩ := h.maps i es hi
      refine ⟨d1, d2, ms, clk, ?_, d4, fun j p m hp hm => by
        obtain ⟨v1, v2⟩ := d5 j p m hp hm
        exact ⟨v1.mono e.prot, v2.mono e⟩⟩
      rw [ho _ (hne i (by simp [live, cur, hi]) (Ne.symm q) _ ((d1 _).2 rfl))]; exact d3
  · simp only [AL.get_set] at hi
    by_cases q : id = i
    · subst q; simp at hi
    · rw [if_neg q] at hi
      obtain ⟨d1, d2⟩ := h.objs i k x hi
      exact ⟨hR.frame k x w w' _ _ d1 (fun c hc => ho c (hne i (by simp [live, cur, hi]) (Ne.symm q) c hc)), d2⟩
  · obtain ⟨d1, d2, arr2, el2, fz, d3, d4, d5, d6⟩ := h.toks i en hi
    have q : i ≠ id := fun q => by subst q; have := h.dis i _ hg; rw [this] at hi; cases hi
    have hli : live S i := by
      unfold live cur
      cases hH : S.H.get i with
      | some b => have := h.dis i b hH; rw [this] at hi; cases hi
      | none => simp [hi]
    refine ⟨d1, d2, arr2, el2, fz, ?_, d4, d5, d6⟩
    rw [ho _ (hne i hli q _ ((d1 _).2 rfl))]; exact d3

/-- A new map. -/
theorem newmap_sound {R : ObjR} (hR : ObjOk R) {cx : Cx} {S : St} {w : World} (h : SRel R cx S w) :
    ∃ cx', SRel R cx' { S with H := S.H.set S.nx (.map { es := [], clk := 0 }), nx := S.nx + 1 } (w.alloc (.map #[] 0)) ∧ Ext cx S w cx' { S with H := S.H.set S.nx (.map { es := [], clk := 0 }), nx := S.nx + 1 } (w.alloc (.map #[] 0)) ∧
      ARel cx' { S with H := S.H.set S.nx (.map { es := [], clk := 0 }), nx := S.nx + 1 } (w.alloc (.map #[] 0)) (.map S.nx) (.map (some w.heap.size)) := by
  obtain ⟨nH, nT⟩ := not_live_nx h
  generalize hS' : ({ S with H := S.H.set S.nx (.map { es := [], clk := 0 }), nx := S.nx + 1 } : St) = S'
  have hH : ∀ id, id ≠ S.nx → S'.H.get id = S.H.get id := fun id hid => by rw [← hS']; simp [AL.get_set, Ne.symm hid]
  have hT : ∀ id, id ≠ S.nx → S'.T.get id = S.T.get id := fun id hid => by rw [← hS']
  have hnx : S'.nx = S.nx + 1 := by rw [← hS']
  have nT' : S'.T.get S.nx = none := by rw [← hS']; exact nT
  have hc : ∀ id, id ≠ S.nx → cur S' id = cur S id := fun id hid => by unfold cur; rw [hH id hid, hT id hid]
  have hnew : S'.H.get S.nx = some (.map { es := [], clk := 0 }) := by rw [← hS']; simp [AL.get_set]
  have e := Ext.fresh (S' := S') h (.map #[] 0) 0 0 (fun _ => True) hnx hc hH
  refine ⟨cx.new S.nx w.heap.size 0 0 (fun _ => True), SRel.fresh hR h _ 0 0 _ hnx hH hT (fun b _ => nT') (fun g cs' hg => ?_) (fun es hg => ?_) (fun k x hg => ?_) (fun en hg => ?_), e, ?_⟩
  · rw [hnew] at hg; cases hg
  · rw [hnew] at hg
    simp only [Option.some.injEq, Blk.map.injEq] at hg
    subst hg
    exact ⟨fun c => by simp [Cx.new], fun o => by simp [Cx.new], #[], 0, by simp only [Cx.new, if_true]; exact heap_alloc_new w _, ⟨rfl, rfl, fun i p m hp => by simp at hp⟩, fun i p m hp => by simp at hp⟩
  · rw [hnew] at hg; cases hg
  · rw [nT'] at hg; cases hg
  · exact .map S.nx w.heap.size ⟨by rw [hnx]; exact Nat.lt_succ_self _, fun g' _ => Nat.zero_le _⟩ (fun _ => by simp [Cx.new])

theorem keyT_some {C : Cfg} {t k e : Nat} (h : keyT C t = some (k, e)) : C.P.underlying t = some (.map k e) := by
  unfold keyT at h
  split at h
  · rename_i k' e' hu
    simp only [Option.some.injEq, Prod.mk.injEq] at h
    rw [hu, h.1, h.2]
  · cases h

theorem map_esr {R : ObjR} {cx : Cx} {S : St} {w : World} (hS : SRel R cx S w) {id : Nat} {M : MapD} (hg : S.H.get id = some (.map M)) {b : Nat} (hx : ARel cx S w (.map id) (.map (some b))) :
    b = cx.bm id ∧ ∃ ms, w.heap[cx.bm id]? = some (.map ms M.clk) ∧ EsR w cx.fr M.es ms.toList ∧ (∀ (i : Nat) (p : D × AV × Nat) (m : MapEntry), M.es[i]? = some p → ms[i]? = some m → m.born = p.2.2 ∧ DRel w cx.fr p.1 m.key ∧ ARel cx S w p.2.1 m.val) ∧ ms.size = M.es.length := by
  obtain ⟨c1, c2, ms, clk, c3, ⟨c4, c4', c4''⟩, c5⟩ := hS.maps id M hg
  subst c4'
  cases hx with
  | map _ _ hn hp =>
    refine ⟨hp (by simp [cur, hg]), ms, c3, ⟨by simpa using c4, fun i p m hp hm => (c5 i p m hp (by simpa using hm)).1⟩, fun i p m hp hm => ⟨c4'' i p m hp hm, (c5 i p m hp hm).1, (c5 i p m hp hm).2⟩, c4⟩

/-- What the search found is what the evaluation found. -/
theorem found_val {cx : Cx} {S : St} {w : World} {P : Program} {t : Nat} {k : D} {es : List (D × AV × Nat)} {ms : Array MapEntry} (hval : ∀ (i : Nat) (p : D × AV × Nat) (m : MapEntry), es[i]? = some p → ms[i]? = some m → ARel cx S w p.2.1 m.val) {i : Nat} {v : AV} {o : Option (Nat × Value)}
    (hf : findK P t k es 0 = some (some (i, v))) (ho : Found ms.toList 0 (some (i, v)) o) : ∃ b m, es[i]? = some (k, v, b) ∧ ms[i]? = some m ∧ o = some (i, m.val) ∧ ARel cx S w v m.val := by
  obtain ⟨b, _, h2⟩ := findK_spec hf
  obtain ⟨m, _, m2, m3⟩ := ho
  rw [Nat.sub_zero] at h2 m2
  have m2' : ms[i]? = some m := by simpa using m2
  exact ⟨b, m, h2, m2', m3, hval i _ m h2 m2'⟩

theorem lookup_sound {R : ObjR} {C : Cfg} {cx : Cx} {S : St} {w : World} (hS : SRel R cx S w) {t : Nat} {m v : AV} {k : D} {ok : Bool} {mv kv : Value} (h : opLookup C t S m k ok = some v) (hm : ARel cx S w m mv) (hk : DRel w cx.fr k kv) :
    ∃ u, (Instr.lookup t mv kv ok).run C.P w = .ok u w ∧ ARel cx S w v u := by
  unfold opLookup at h
  split at h
  · rename_i kt et M hkt hM
    have hu := keyT_some hkt
    split at h
    · rename_i hkey
      have hchk := check_key hkey hk
      have fin : ∀ (ms : Array MapEntry), EsR w cx.fr M.es ms.toList → (∀ (i : Nat) (p : D × AV × Nat) (m : MapEntry), M.es[i]? = some p → ms[i]? = some m → ARel cx S w p.2.1 m.val) →
          ∃ u : Value × Bool, ∃ o, (Instr.findKey kt kv ms.toList).run C.P w = .ok o w ∧ ARel cx S w v (if ok then .tuple #[u.1, .bool u.2] else u.1) ∧
            ((∃ i, o = some (i, u.1) ∧ u.2 = true) ∨ (o = none ∧ (zeroValue et).run C.P w = .ok u.1 w ∧ u.2 = false)) := by
        intro ms hE hval
        have two : ∀ {y : AV} {x : Value} {b : Bool}, ARel cx S w y x → ARel cx S w (if ok = true then .tup [y, .d (.bool b)] else y) (if ok = true then .tuple #[x, .bool b] else x) := by
          intro y x b hy
          cases ok
          · exact hy
          · refine .tup [y, .d (.bool b)] [x, .bool b] rfl (fun i a c ha hc => ?_)
            match i, ha, hc with
            | 0, ha, hc => simp at ha hc; subst ha; subst hc; exact hy
            | 1, ha, hc => simp at ha hc; subst ha; subst hc; exact .of_bool b
        split at h
        · rename_i i y hf
          simp only [Option.some.injEq] at h; subst h
          obtain ⟨o, o1, o2⟩ := findKey_sound (P := C.P) hkey hk hE hf
          obtain ⟨b, m', _, _, q3, q4⟩ := found_val hval hf o2
          exact ⟨(m'.val, true), o, o1, two q4, .inl ⟨i, q3, rfl⟩⟩
        · rename_i hf
          simp only [Option.map_eq_some_iff] at h
          obtain ⟨z, hz, rfl⟩ := h
          obtain ⟨o, o1, o2⟩ := findKey_sound (P := C.P) hkey hk hE hf
          obtain ⟨zv, z1, z2⟩ := zero_sound hz w cx.fr
          have : o = none := o2
          exact ⟨(zv, false), o, o1, two (.d z zv z2), .inr ⟨this, z1, rfl⟩⟩
        · cases h
      have go : ∀ (ms : Array MapEntry) (u : Value × Bool) (o : Option (Nat × Value)), (Instr.findKey kt kv ms.toList).run C.P w = .ok o w → ((∃ i, o = some (i, u.1) ∧ u.2 = true) ∨ (o = none ∧ (zeroValue et).run C.P w = .ok u.1 w ∧ u.2 = false)) →
          ((mv = .map none ∧ ms = #[]) ∨ ∃ r c, mv = .map (some r) ∧ w.heap[r]? = some (.map ms c)) → (Instr.lookup t mv kv ok).run C.P w = .ok (if ok then .tuple #[u.1, .bool u.2] else u.1) w := by
        intro ms u o ho hor hmv
        obtain ⟨u1, u2⟩ := u
        rcases hmv with ⟨rfl, rfl⟩ | ⟨r, c, rfl, hr⟩ <;> rcases hor with ⟨i, rfl, hb⟩ | ⟨rfl, hz, hb⟩ <;> simp only at hb <;> subst hb
        · simp only [Instr.lookup, Sem.run_bind, run_und w hu, Result.andThen_ok, Sem.run_pure, hchk, ho]
        · simp only at hz
          simp only [Instr.lookup, Sem.run_bind, run_und w hu, Result.andThen_ok, Sem.run_pure, hchk, ho, hz]
        · simp only [Instr.lookup, Sem.run_bind, run_und w hu, Result.andThen_ok, Sem.run_pure, hchk, ho, MapKept.run_getObj_map hr]
        · simp only at hz
          simp only [Instr.lookup, Sem.run_bind, run_und w hu, Result.andThen_ok, Sem.run_pure, hchk, ho, hz, MapKept.run_getObj_map hr]
      unfold mapOf at hM
      split at hM
      · simp only [Option.some.injEq] at hM; subst hM
        have := hm.dd.val rfl; cases this
        obtain ⟨u, o, f1, f2, f3⟩ := fin #[] ⟨rfl, by simp⟩ (by simp)
        exact ⟨_, go #[] u o f1 f3 (.inl ⟨rfl, rfl⟩), f2⟩
      · rename_i id
        split at hM
        · rename_i M' hg
          simp only [Option.some.injEq] at hM; subst hM
          cases hm with
          | map _ b hn hp =>
            obtain ⟨p1, ms, p2, p3, p4, p5⟩ := map_esr hS hg (.map id b hn hp)
            subst p1
            obtain ⟨u, o, f1, f2, f3⟩ := fin ms p3 (fun i p m hp hm => (p4 i p m hp hm).2.2)
            exact ⟨_, go ms u o f1 f3 (.inr ⟨_, _, rfl, p2⟩), f2⟩
        · cases hM
      · cases hM
    · cases h
  · cases h

/-- The map's block is set. -/
theorem setmap_sound {R : ObjR} (hR : ObjOk R) {P : Program} {cx : Cx} {S : St} {w : World} (h : SRel R cx S w) {id : Nat} {M M' : MapD} (hg : S.H.get id = some (.map M)) {ms ms' : Array MapEntry} {c c' : Nat} (hb : w.heap[cx.bm id]? = some (.map ms c))
    (hd : ms'.size = M'.es.length ∧ c' = M'.clk)
    (hv : ∀ (i : Nat) (p : D × AV × Nat) (m : MapEntry), M'.es[i]? = some p → ms'[i]? = some m → m.born = p.2.2 ∧ DRel w cx.fr p.1 m.key ∧ ARel cx S w p.2.1 m.val) :
    ∃ w', (setObj (cx.bm id) (.map ms' c')).run P w = .ok () w' ∧ SRel R cx { S with H := S.H.set id (.map M') } w' ∧ Ext cx S w cx { S with H := S.H.set id (.map M') } w' := by
  have hlt : cx.bm id < w.heap.size := by
    rcases Nat.lt_or_ge (cx.bm id) w.heap.size with q | q
    · exact q
    · rw [Array.getElem?_eq_none q] at hb; cases hb
  refine ⟨_, MapKept.run_setObj_map _ hb, mwrite_sound hR h hg (by simp) (fun b hne => ?_) rfl rfl rfl (ms' := ms') (clk' := c') ?_ ⟨hd.1, hd.2, fun i p m hp hm => (hv i p m hp hm).1⟩ (fun i p m hp hm => (hv i p m hp hm).2)⟩
  · simp only [Array.getElem?_setIfInBounds]
    rw [if_neg (Ne.symm hne)]
  · simp only [Array.getElem?_setIfInBounds, hlt, if_true]

theorem stays_sound {P : Program} {w : World} {fr : Nat → Nat → Prop} {t : Nat} {k : D} {v u : Value} (hk : keyOk P t k = true) (h1 : DRel w fr k v) (h2 : DRel w fr k u) : (Instr.keyThatStays v u).run P w = .ok u w := by
  have := key_eq hk h1 h2; subst this
  unfold Instr.keyThatStays
  rw [if_pos (key_bits hk h1 9999)]
  rfl

/-- A list that goes on. -/
theorem push_entries {cx : Cx} {S : St} {w : World} {es : List (D × AV × Nat)} {ms : Array MapEntry} {p0 : D × AV × Nat} {m0 : MapEntry} (hsz : ms.size = es.length) (h : ∀ (i : Nat) (p : D × AV × Nat) (m : MapEntry), es[i]? = some p → ms[i]? = some m → m.born = p.2.2 ∧ DRel w cx.fr p.1 m.key ∧ ARel cx S w p.2.1 m.val)
    (h0 : m0.born = p0.2.2 ∧ DRel w cx.fr p0.1 m0.key ∧ ARel cx S w p0.2.1 m0.val) : ∀ (i : Nat) (p : D × AV × Nat) (m : MapEntry), (es ++ [p0])[i]? = some p → (ms.push m0)[i]? = some m → m.born = p.2.2 ∧ DRel w cx.fr p.1 m.key ∧ ARel cx S w p.2.1 m.val := by
  intro i p m hp hm
  rw [Array.getElem?_push] at hm
  rw [List.getElem?_append] at hp
  by_cases hi : i = ms.size
  · rw [if_pos hi] at hm
    rw [if_neg (by omega), show i - es.length = 0 by omega] at hp
    simp at hp hm; subst hp; subst hm; exact h0
  · rw [if_neg hi] at hm
    have hlt : i < ms.size := (Array.getElem?_eq_some_iff.1 hm).1
    rw [if_pos (by omega)] at hp
    exact h i p m hp hm

theorem modify_entries {cx : Cx} {S : St} {w : World} {es : List (D × AV × Nat)} {ms : Array MapEntry} {j : Nat} {f : D × AV × Nat → D × AV × Nat} {g : MapEntry → MapEntry} (h : ∀ (i : Nat) (p : D × AV × Nat) (m : MapEntry), es[i]? = some p → ms[i]? = some m → m.born = p.2.2 ∧ DRel w cx.fr p.1 m.key ∧ ARel cx S w p.2.1 m.val)
    (h0 : ∀ (p : D × AV × Nat) (m : MapEntry), es[j]? = some p → ms[j]? = some m → (g m).born = (f p).2.2 ∧ DRel w cx.fr (f p).1 (g m).key ∧ ARel cx S w (f p).2.1 (g m).val) : ∀ (i : Nat) (p : D × AV × Nat) (m : MapEntry), (es.modify j f)[i]? = some p → (ms.modify j g)[i]? = some m → m.born = p.2.2 ∧ DRel w cx.fr p.1 m.key ∧ ARel cx S w p.2.1 m.val := by
  intro i p m hp hm
  rw [Array.getElem?_modify] at hm
  rw [List.getElem?_modify] at hp
  by_cases hi : j = i
  · subst hi
    simp only [if_true, Option.map_eq_map, Option.map_eq_some_iff] at hp hm
    obtain ⟨p1, q1, q2⟩ := hp
    obtain ⟨m1, r1, r2⟩ := hm
    have q2' : f p1 = p := by simpa using q2
    subst q2'; subst r2
    exact h0 p1 m1 q1 r1
  · rw [if_neg hi] at hm
    simp only [Option.map_eq_map, Option.map_eq_some_iff] at hp
    obtain ⟨p1, q1, q2⟩ := hp
    have q2' : p1 = p := by simpa [hi] using q2
    subst q2'
    exact h i p1 m q1 hm

theorem update_sound {R : ObjR} (hR : ObjOk R) {C : Cfg} {cx : Cx} {S S' : St} {w : World} (hS : SRel R cx S w) {t : Nat} {m v : AV} {k : D} {mv kv vv : Value} (h : opUpdate C t S m k v = some S') (hm : ARel cx S w m mv) (hk : DRel w cx.fr k kv) (hv : ARel cx S w v vv) :
    ∃ w', (Instr.mapUpdate t mv kv vv).run C.P w = .ok () w' ∧ SRel R cx S' w' ∧ Ext cx S w cx S' w' := by
  unfold opUpdate at h
  split at h
  · rename_i kt et id hkt
    have hu := keyT_some hkt
    split at h
    · rename_i M hg
      split at h
      · rename_i hc
        simp only [Bool.and_eq_true] at hc
        obtain ⟨hkey, hpl⟩ := hc
        have hchk := check_key hkey hk false
        cases hm with
        | map _ b hn hp =>
        obtain ⟨p1, ms, p2, p3, p4, p5⟩ := map_esr hS hg (.map id b hn hp)
        subst p1
        split at h
        · rename_i i y hf
          simp only [Option.some.injEq] at h; subst h
          obtain ⟨o, o1, o2⟩ := findKey_sound (P := C.P) hkey hk p3 hf
          obtain ⟨bn, m', q1, q2, q3, q4⟩ := found_val (fun i p m hp hm => (p4 i p m hp hm).2.2) hf o2
          subst q3
          obtain ⟨w', k1, k2, k3⟩ := setmap_sound hR (P := C.P) (M' := { M with es := M.es.modify i fun p => (k, v, p.2.2) }) (ms' := ms.modify i fun e => { e with key := kv, val := vv }) (c' := M.clk) hS hg p2 ⟨by simp [p5], rfl⟩
            (modify_entries p4 (fun p m hp hm => ⟨(p4 i p m hp hm).1, hk, hv⟩))
          refine ⟨w', ?_, k2, k3⟩
          have hst := stays_sound hkey (p4 i _ m' q1 q2).2.1 hk
          simp only [Instr.mapUpdate, Sem.run_bind, run_und w hu, Result.andThen_ok, MapKept.run_getObj_map p2, hchk, o1, q2, Option.map_some, Option.getD_some, hst]
          exact k1
        · rename_i hf
          simp only [Option.some.injEq] at h; subst h
          obtain ⟨o, o1, o2⟩ := findKey_sound (P := C.P) hkey hk p3 hf
          have : o = none := o2
          subst this
          obtain ⟨w', k1, k2, k3⟩ := setmap_sound hR (P := C.P) (M' := { es := M.es ++ [(k, v, M.clk)], clk := M.clk + 1 }) (ms' := ms.push { key := kv, val := vv, born := M.clk }) (c' := M.clk + 1) hS hg p2 ⟨by simp [p5], rfl⟩
            (push_entries p5 p4 ⟨rfl, hk, hv⟩)
          refine ⟨w', ?_, k2, k3⟩
          simp only [Instr.mapUpdate, Sem.run_bind, run_und w hu, Result.andThen_ok, MapKept.run_getObj_map p2, hchk, o1]
          exact k1
        · cases h
      · cases h
    · cases h
  · cases h

/-- A block that is set to what it is. -/
theorem set_same {R : ObjR} {cx : Cx} {S : St} {w w' : World} {id : Nat} {b : Blk} (hg : S.H.get id = some b) (h1 : SRel R cx { S with H := S.H.set id b } w') (h2 : Ext cx S w cx { S with H := S.H.set id b } w') : SRel R cx S w' ∧ Ext cx S w cx S w' := by
  have hH : ∀ i, ({ S with H := S.H.set id b } : St).H.get i = S.H.get i := fun i => by
    simp only [AL.get_set]
    by_cases q : id = i
    · subst q; simp [hg]
    · simp [q]
  have hcur : ∀ i, cur { S with H := S.H.set id b } i = cur S i := fun i => by unfold cur; rw [hH i]
  have hl : ∀ i, live { S with H := S.H.set id b } i ↔ live S i := fun i => by unfold live; rw [hcur i]
  have e2 : Ext cx { S with H := S.H.set id b } w' cx S w' := by
    refine ⟨Nat.le_refl _, rfl, rfl, rfl, Nat.le_refl _, fun _ _ _ q1 q2 => ⟨q2, q1⟩, fun _ _ _ => ⟨rfl, fun _ => Iff.rfl⟩, fun i b hi hf => ⟨fun _ => ⟨(hl i).2 hi, .inl hf⟩, fun hge => absurd (h1.wf i ((hl i).2 hi)) (by show ¬ i < S.nx; exact Nat.not_lt.2 hge)⟩, fun i g _ hi => ⟨g, by unfold isIt at *; rw [hH i]; exact hi⟩, fun _ _ _ _ _ _ hf => hf, fun i g hi hg' => ⟨g, by rw [hcur i]; exact hg', Nat.le_refl _, fun _ => ⟨rfl, rfl, rfl⟩⟩⟩
  refine ⟨⟨fun i hi => h1.wf i ((hl i).2 hi), fun i b hi => h1.dis i b (by rw [hH i]; exact hi), fun i g cs hi => ?_, fun i es hi => ?_, fun i k x hi => h1.objs i k x (by rw [hH i]; exact hi), fun i n hi => h1.toks i n hi, fun i i' b a1 a2 => h1.sep i i' b ((hl i).2 a1) ((hl i').2 a2), h1.lt, h1.stat⟩, h2.trans e2⟩
  · obtain ⟨d1, d2, arr2, el2, d3, d4, d5⟩ := h1.cells i g cs (by rw [hH i]; exact hi)
    exact ⟨d1, d2, arr2, el2, d3, d4, fun j x hx => by
      obtain ⟨v, v1, v2, v3⟩ := d5 j x hx
      exact ⟨v, v1, v2.mono e2, v3⟩⟩
  · obtain ⟨d1, d2, ms, clk, d3, d4, d5⟩ := h1.maps i es (by rw [hH i]; exact hi)
    exact ⟨d1, d2, ms, clk, d3, d4, fun j p m hp hm => by
      obtain ⟨v1, v2⟩ := d5 j p m hp hm
      exact ⟨v1, v2.mono e2⟩⟩

theorem entry_sound {R : ObjR} (hR : ObjOk R) {C : Cfg} {cx : Cx} {S : St} {w : World} (hS : SRel R cx S w) {t : Nat} {m : AV} {k : D} {r : AV × St} {mv kv : Value} (h : opEntry C t S m k = some r) (hm : ARel cx S w m mv) (hk : DRel w cx.fr k kv) :
    ∃ w' u, (Instr.mapEntry t mv kv).run C.P w = .ok u w' ∧ SRel R cx r.2 w' ∧ Ext cx S w cx r.2 w' ∧ ARel cx r.2 w' r.1 u := by
  have two : ∀ {S' : St} {w' : World} {y : AV} {x : Value} {n : Nat}, ARel cx S' w' y x → ARel cx S' w' (.tup [y, .d (.int .i64 (n : Nat))]) (.tuple #[x, goInt n]) := by
    intro S' w' y x n hy
    refine .tup [y, .d (.int .i64 n)] [x, goInt n] rfl (fun i a c ha hc => ?_)
    match i, ha, hc with
    | 0, ha, hc => simp at ha hc; subst ha; subst hc; exact hy
    | 1, ha, hc => simp at ha hc; subst ha; subst hc; exact .of_int _ _
  unfold opEntry at h
  split at h
  · rename_i kt et id hkt
    have hu := keyT_some hkt
    split at h
    · rename_i M hg
      split at h
      · rename_i hkey
        have hchk := check_key hkey hk false
        cases hm with
        | map _ b hn hp =>
        obtain ⟨p1, ms, p2, p3, p4, p5⟩ := map_esr hS hg (.map id b hn hp)
        subst p1
        split at h
        · rename_i i y hf
          split at h
          · rename_i p hpi
            simp only [Option.some.injEq] at h; subst h
            obtain ⟨o, o1, o2⟩ := findKey_sound (P := C.P) hkey hk p3 hf
            obtain ⟨bn, m', q1, q2, q3, q4⟩ := found_val (fun i p m hp hm => (p4 i p m hp hm).2.2) hf o2
            subst q3
            rw [hpi] at q1
            simp only [Option.some.injEq] at q1; subst q1
            have hsame : M.es.modify i (fun p => (k, p.2.1, p.2.2)) = M.es := by
              apply List.ext_getElem?
              intro j
              rw [List.getElem?_modify]
              by_cases hj : i = j
              · subst hj; rw [hpi]; simp
              · simp [hj]
            obtain ⟨w', k1, k2, k3⟩ := setmap_sound hR (P := C.P) (M' := { M with es := M.es.modify i fun p => (k, p.2.1, p.2.2) }) (ms' := ms.modify i fun e => { e with key := kv }) (c' := M.clk) hS hg p2 ⟨by simp [p5], rfl⟩
              (modify_entries p4 (fun p m hp hm => ⟨(p4 i p m hp hm).1, hk, (p4 i p m hp hm).2.2⟩))
            rw [hsame] at k2 k3
            have hback : SRel R cx S w' ∧ Ext cx S w cx S w' := set_same hg k2 k3
            have hborn := (p4 i _ m' hpi q2).1
            refine ⟨w', .tuple #[m'.val, goInt m'.born], ?_, hback.1, hback.2, ?_⟩
            · have hst := stays_sound hkey (p4 i _ m' hpi q2).2.1 hk
              simp only [Instr.mapEntry, Sem.run_bind, run_und w hu, Result.andThen_ok, MapKept.run_getObj_map p2, hchk, o1, q2, Option.map_some, Option.getD_some, hst]
              rw [k1]; rfl
            · rw [hborn]
              exact two (q4.mono hback.2)
          · cases h
        · rename_i hf
          simp only [Option.map_eq_some_iff] at h
          obtain ⟨z, hz, rfl⟩ := h
          obtain ⟨o, o1, o2⟩ := findKey_sound (P := C.P) hkey hk p3 hf
          have : o = none := o2
          subst this
          obtain ⟨zv, z1, z2⟩ := zero_sound hz w cx.fr
          obtain ⟨w', k1, k2, k3⟩ := setmap_sound hR (P := C.P) (M' := { es := M.es ++ [(k, .d z, M.clk)], clk := M.clk + 1 }) (ms' := ms.push { key := kv, val := zv, born := M.clk }) (c' := M.clk + 1) hS hg p2 ⟨by simp [p5], rfl⟩
            (push_entries p5 p4 ⟨rfl, hk, .d z zv z2⟩)
          refine ⟨w', .tuple #[zv, goInt M.clk], ?_, k2, k3, two ((ARel.d z zv z2).mono k3)⟩
          simp only [Instr.mapEntry, Sem.run_bind, run_und w hu, Result.andThen_ok, MapKept.run_getObj_map p2, hchk, o1, z1]
          rw [k1]; rfl
        · cases h
      · cases h
    · cases h
  · cases h

theorem findBorn_spec {n : Nat} : ∀ {es : List (D × AV × Nat)} {i0 i : Nat}, findBorn n es i0 = some i → i0 ≤ i ∧ (∃ p, es[i - i0]? = some p ∧ p.2.2 = n) ∧ ∀ j p, i0 ≤ j → j < i → es[j - i0]? = some p → p.2.2 ≠ n
  | [], i0, i, h => by simp [findBorn] at h
  | (x, v, b) :: l, i0, i, h => by
    simp only [findBorn] at h
    cases hb : Nat.beq b n with
    | true =>
      rw [hb] at h
      simp only [cond_true, Option.some.injEq] at h
      subst h
      exact ⟨Nat.le_refl _, ⟨(x, v, b), by simp, Nat.eq_of_beq_eq_true hb⟩, fun j p h1 h2 => by omega⟩
    | false =>
      rw [hb] at h
      simp only [cond_false] at h
      obtain ⟨h1, ⟨p, h2, h3⟩, h4⟩ := findBorn_spec h
      refine ⟨by omega, ⟨p, ?_, h3⟩, fun j q hj1 hj2 hq => ?_⟩
      · rw [show i - i0 = (i - (i0 + 1)) + 1 by omega]; simpa using h2
      · by_cases hj : j = i0
        · subst hj
          simp at hq; subst hq
          intro e
          simp only at e
          rw [e] at hb
          simp at hb
        · refine h4 j q (by omega) hj2 ?_
          rw [show j - i0 = (j - (i0 + 1)) + 1 by omega] at hq
          simpa using hq

theorem entryStore_sound {R : ObjR} (hR : ObjOk R) {C : Cfg} {cx : Cx} {S S' : St} {w : World} (hS : SRel R cx S w) {t : Nat} {m v : AV} {st : D} {mv sv vv : Value} (h : opEntryStore S m st v = some S') (hm : ARel cx S w m mv) (hs : DRel w cx.fr st sv) (hv : ARel cx S w v vv) :
    ∃ w', (Instr.entryStore t mv sv vv).run C.P w = .ok () w' ∧ SRel R cx S' w' ∧ Ext cx S w cx S' w' := by
  unfold opEntryStore at h
  split at h
  · rename_i id n
    split at h
    · rename_i M hg
      split at h
      · rename_i hc
        obtain ⟨hn0, hpl⟩ := hc
        have := hs.val rfl; cases this
        cases hm with
        | map _ b hn hp =>
        obtain ⟨p1, ms, p2, p3, p4, p5⟩ := map_esr hS hg (.map id b hn hp)
        subst p1
        split at h
        · rename_i i hf
          simp only [Option.some.injEq] at h; subst h
          obtain ⟨_, ⟨p, f2, f3⟩, f4⟩ := findBorn_spec hf
          rw [Nat.sub_zero] at f2
          have hil : i < ms.size := by rw [p5]; exact (List.getElem?_eq_some_iff.1 f2).1
          have hidx : ms.findIdx? (fun e => (e.born : Int) == n) = some i := by
            rw [Array.findIdx?_eq_some_iff_getElem]
            refine ⟨hil, ?_, fun j hj => ?_⟩
            · have := (p4 i p ms[i] f2 (by simp [hil])).1
              rw [this, f3]
              simp [Int.toNat_of_nonneg hn0]
            · have hjl : j < M.es.length := by omega
              have hq := List.getElem?_eq_getElem hjl
              have hb := (p4 j M.es[j] ms[j] hq (by simp [show j < ms.size by omega])).1
              have hne := f4 j M.es[j] (Nat.zero_le _) hj (by rw [Nat.sub_zero]; exact hq)
              simp only [beq_iff_eq]
              rw [hb]
              intro e
              apply hne
              omega
          obtain ⟨w', k1, k2, k3⟩ := setmap_sound hR (P := C.P) (M' := { M with es := M.es.modify i fun p => (p.1, v, p.2.2) }) (ms' := ms.modify i fun e => { e with val := vv }) (c' := M.clk) hS hg p2 ⟨by simp [p5], rfl⟩
            (modify_entries p4 (fun p m hp hm => ⟨(p4 i p m hp hm).1, (p4 i p m hp hm).2.1, hv⟩))
          refine ⟨w', ?_, k2, k3⟩
          have hint : (asInt (.int .i64 n)).run C.P w = .ok n w := by simp [asInt, asIntOf]
          simp only [Instr.entryStore, Sem.run_bind, Sem.run_pure, Result.andThen_ok, MapKept.run_getObj_map p2, hint, hidx]
          exact k1
        · cases h
      · cases h
    · cases h
  · cases h

theorem erase_entries {cx : Cx} {S : St} {w : World} {es : List (D × AV × Nat)} {ms : Array MapEntry} {j : Nat} (h : ∀ (i : Nat) (p : D × AV × Nat) (m : MapEntry), es[i]? = some p → ms[i]? = some m → m.born = p.2.2 ∧ DRel w cx.fr p.1 m.key ∧ ARel cx S w p.2.1 m.val) :
    ∀ (i : Nat) (p : D × AV × Nat) (m : MapEntry), (es.eraseIdx j)[i]? = some p → (ms.eraseIdxIfInBounds j)[i]? = some m → m.born = p.2.2 ∧ DRel w cx.fr p.1 m.key ∧ ARel cx S w p.2.1 m.val := by
  intro i p m hp hm
  have hm' : (ms.toList.eraseIdx j)[i]? = some m := by
    rw [← Array.getElem?_toList] at hm
    simpa using hm
  rw [List.getElem?_eraseIdx] at hp hm'
  split at hp
  · rename_i hlt
    rw [if_pos hlt] at hm'
    exact h i p m hp (by simpa using hm')
  · rename_i hlt
    rw [if_neg hlt] at hm'
    exact h (i + 1) p m hp (by simpa using hm')

theorem delete_sound {R : ObjR} (hR : ObjOk R) {C : Cfg} {cx : Cx} {S S' : St} {w : World} (hS : SRel R cx S w) {t ty : Nat} {m : AV} {k : D} {mv kv : Value} (h : opDelete C t S m k = some S') (hm : ARel cx S w m mv) (hk : DRel w cx.fr k kv) :
    ∃ w', (Builtin.delete_ #[t] ty #[mv, kv]).run C.P w = .ok (.tuple #[]) w' ∧ SRel R cx S' w' ∧ Ext cx S w cx S' w' := by
  unfold opDelete at h
  split at h
  · rename_i kt et id hkt
    have hu := keyT_some hkt
    split at h
    · rename_i M hg
      split at h
      · rename_i hkey
        cases hm with
        | map _ b hn hp =>
        obtain ⟨p1, ms, p2, p3, p4, p5⟩ := map_esr hS hg (.map id b hn hp)
        subst p1
        have hchk := check_key hkey hk ms.isEmpty
        split at h
        · rename_i i y hf
          simp only [Option.some.injEq] at h; subst h
          obtain ⟨o, o1, o2⟩ := findKey_sound (P := C.P) hkey hk p3 hf
          obtain ⟨bn, m', q1, q2, q3, q4⟩ := found_val (fun i p m hp hm => (p4 i p m hp hm).2.2) hf o2
          subst q3
          obtain ⟨w', k1, k2, k3⟩ := setmap_sound hR (P := C.P) (M' := { M with es := M.es.eraseIdx i }) (ms' := ms.eraseIdxIfInBounds i) (c' := M.clk) hS hg p2 ⟨by
              have e1 : (ms.eraseIdxIfInBounds i).toList = ms.toList.eraseIdx i := by simp
              rw [← Array.length_toList, e1, List.length_eraseIdx, List.length_eraseIdx, Array.length_toList, p5], rfl⟩ (erase_entries p4)
          refine ⟨w', ?_, k2, k3⟩
          simp only [Builtin.delete_, List.getElem?_toArray, List.getElem?_cons_zero, List.getElem?_cons_succ, Sem.run_bind, run_und w hu, Result.andThen_ok, MapKept.run_getObj_map p2, hchk, o1, k1, Sem.run_pure]
        · rename_i hf
          simp only [Option.some.injEq] at h; subst h
          obtain ⟨o, o1, o2⟩ := findKey_sound (P := C.P) hkey hk p3 hf
          have : o = none := o2
          subst this
          obtain ⟨w', k1, k2, k3⟩ := setmap_sound hR (P := C.P) (M' := M) (ms' := ms) (c' := M.clk) hS hg p2 ⟨p5, rfl⟩ p4
          obtain ⟨k2, k3⟩ := set_same hg k2 k3
          refine ⟨w', ?_, k2, k3⟩
          simp only [Builtin.delete_, List.getElem?_toArray, List.getElem?_cons_zero, List.getElem?_cons_succ, Sem.run_bind, run_und w hu, Result.andThen_ok, MapKept.run_getObj_map p2, hchk, o1, k1, Sem.run_pure]
        · cases h
      · cases h
    · cases h
  · cases h

end Go.Ev

import Derived.Test.YtdelaagbhhnniaaGreatDoorEvOp2
namespace Go.Ev
set_option linter.unusedVariables false
set_option linter.unusedSimpArgs false

theorem mapO_spec {α β : Type} {f : α → Option β} : ∀ {l : List α} {r : List β}, mapO f l = some r → r.length = l.length ∧ ∀ (i : Nat) (x : α) (y : β), l[i]? = some x → r[i]? = some y → f x = some y
  | [], r, h => by simp [mapO] at h; subst h; simp
  | a :: l, r, h => by
    simp only [mapO] at h
    cases hf : f a with
    | none => rw [hf] at h; cases h
    | some b =>
      rw [hf] at h
      simp only [Option.map_eq_some_iff] at h
      obtain ⟨r', h1, rfl⟩ := h
      obtain ⟨h2, h3⟩ := mapO_spec h1
      refine ⟨by simp [h2], fun i x y hx hy => ?_⟩
      cases i with
      | zero => simp at hx hy; subst hx; subst hy; exact hf
      | succ i => simp at hx hy; exact h3 i x y hx hy

theorem ofScalar_sound {v : Value} {x : D} (h : ofScalar v = some x) (w : World) (fr : Nat → Nat → Prop) : CRel w fr x [v] ∧ x.isAgg = false := by
  unfold ofScalar at h
  split at h <;> simp only [Option.some.injEq, reduceCtorEq] at h <;> subst h
  · exact ⟨.bool _, rfl⟩
  · exact ⟨.int _ _, rfl⟩
  · exact ⟨.flt _ _, rfl⟩
  · exact ⟨.str _, rfl⟩
  · exact ⟨.nilp, rfl⟩
  · exact ⟨.nils, rfl⟩
  · exact ⟨.nilm, rfl⟩
  · exact ⟨.nilf, rfl⟩
  · exact ⟨.nili, rfl⟩

theorem ofConst_sound {v : Value} {x : D} (h : ofConst v = some x) (w : World) (fr : Nat → Nat → Prop) : DRel w fr x v := by
  unfold ofConst at h
  split at h
  · rename_i a
    simp only [Option.map_eq_some_iff] at h
    obtain ⟨xs, h1, rfl⟩ := h
    obtain ⟨h2, h3⟩ := mapO_spec h1
    have key : ∀ (i : Nat) (x : D) (v : Value), xs[i]? = some x → a.toList[i]? = some v → CRel w fr x [v] ∧ x.isAgg = false := fun i x v hx hv => ofScalar_sound (h3 i v x hv hx) w fr
    refine ⟨.agg xs a.toList h2.symm (fun v hv => ?_) (fun x hx => ?_) (fun i x v hx hv => (key i x v hx hv).1), rfl⟩
    · obtain ⟨i, hi⟩ := List.mem_iff_getElem?.1 hv
      have hlt : i < xs.length := by rw [h2]; exact (List.getElem?_eq_some_iff.1 hi).1
      obtain ⟨q1, q2⟩ := key i xs[i] v (List.getElem?_eq_getElem hlt) hi
      exact q1.one q2
    · obtain ⟨i, hi⟩ := List.mem_iff_getElem?.1 hx
      have hlt : i < a.toList.length := by rw [← h2]; exact (List.getElem?_eq_some_iff.1 hi).1
      exact (key i x a.toList[i] hi (List.getElem?_eq_getElem hlt)).2
  · obtain ⟨q1, q2⟩ := ofScalar_sound h w fr
    exact DRel.of_cell q1 q2

theorem zero_sound {P : Program} {t : Nat} {x : D} (h : zeroOf P t = some x) (w : World) (fr : Nat → Nat → Prop) : ∃ z, (zeroValue t).run P w = .ok z w ∧ DRel w fr x z := by
  unfold zeroOf at h
  split at h
  · rename_i i hi
    simp only [Option.bind_eq_some_iff] at h
    obtain ⟨z, hz, h⟩ := h
    exact ⟨z, by simp [zeroValue, typeInfo, hi, hz], ofConst_sound h w fr⟩
  · cases h

theorem bytesOfD_sound {xs : List D} {s : List UInt8} (h : bytesOfD xs = some s) : ∃ ns : List Int, xs = ns.map (.int .u8) ∧ s = ns.map fun n => UInt8.ofNat n.toNat := by
  induction xs generalizing s with
  | nil => simp [bytesOfD] at h; subst h; exact ⟨[], rfl, rfl⟩
  | cons x xs ih =>
    unfold bytesOfD at h
    split at h
    · rename_i e; simp at e
    · rename_i n l e
      simp only [List.cons.injEq] at e
      obtain ⟨rfl, rfl⟩ := e
      simp only [Option.map_eq_some_iff] at h
      obtain ⟨s', h1, rfl⟩ := h
      obtain ⟨ns, h2, h3⟩ := ih h1
      exact ⟨n :: ns, by simp [h2], by simp [h3]⟩
    · cases h

theorem foldl_push (ns : List Int) : ∀ (b : ByteArray), (ns.foldl (fun r n => r.push (UInt8.ofNat n.toNat)) b).data.toList = b.data.toList ++ ns.map fun n => UInt8.ofNat n.toNat := by
  induction ns with
  | nil => intro b; simp
  | cons n ns ih =>
    intro b
    simp only [List.foldl_cons, List.map_cons]
    rw [ih]
    simp [ByteArray.push]

theorem byteSl_some {C : Cfg} {t : Nat} (h : byteSl C t = true) : ∃ e, C.P.underlying t = some (.slice e) ∧ C.P.underlying e = some (.int .u8) := by
  unfold byteSl at h
  split at h
  · rename_i e he
    split at h
    · rename_i hk; exact ⟨e, elemSl_some he, intT_some hk⟩
    · cases h
  · cases h

/-- Bytes as a text. -/
theorem bytes_sound {C : Cfg} {cx : Cx} {S : St} {w : World} {src dst : Nat} {xs : List D} {tight : Bool} {s : List UInt8} {v : Value} (hx : DRel w cx.fr (.sl xs tight) v) (hst : strT C.P dst = true)
    (hb : byteSl C src = true) (h : bytesOfD xs = some s) : ∃ u, (convert src dst v).run C.P w = .ok u w ∧ ARel cx S w (.d (.str s)) u := by
  obtain ⟨e, hs, he⟩ := byteSl_some hb
  have hd := strT_some hst
  obtain ⟨ns, rfl, rfl⟩ := bytesOfD_sound h
  obtain ⟨a, cap, rfl, hcap, _, hm⟩ := slI hx
  rw [run_convert_bytes_string w src dst e a _ _ hs he hd]
  by_cases hne : ns = []
  · subst hne
    refine ⟨.string .empty, ?_, .of_str' _ _ rfl⟩
    cases a with
    | none => simp [Conv.bytesToString]
    | some ad =>
      have := run_bytesToString (P := C.P) w ad 0 cap [] (by simp [loadCells, loadCellsFrom])
      simpa using this
  · obtain ⟨b, off, sz, vs, rfl, h1, h2, h3, h4⟩ := hm (by simpa using hne)
    have hsz : sz = 1 := by
      cases ns with
      | nil => exact absurd rfl hne
      | cons n ns => have := h1 0 (.int .u8 n) (by simp); simp [D.cells] at this; omega
    subst hsz
    have hl : (loadCells ⟨b, off, none⟩ (ns.map (Value.int .u8)).length).run C.P w = .ok (ns.map (Value.int .u8)).toArray w := by
      refine run_loadCells_list w _ _ (fun j v hv => ?_)
      simp only [List.getElem?_map, Option.map_eq_some_iff] at hv
      obtain ⟨n, hn, rfl⟩ := hv
      have hj : j < ns.length := (List.getElem?_eq_some_iff.1 hn).1
      have hc := h3 j (.int .u8 n) (by simp [hn])
      generalize hq : vs j = q at hc
      cases hc with
      | int =>
        have := (h4 j 0 (.int .u8 n) (by simpa using hj) (by rw [hq]; rfl)).1
        rw [add_at]
        simpa using this
    refine ⟨_, run_bytesToString (P := C.P) w _ _ cap ns (by simpa using hl), .of_str' _ _ ?_⟩
    rw [foldl_push]
    show [] ++ _ = _
    rfl

theorem conv_sound {C : Cfg} {cx : Cx} {S : St} {w : World} {src dst : Nat} {x r : AV} {v : Value} (h : convAV C src dst x = some r) (hx : ARel cx S w x v) :
    ∃ u, (convert src dst v).run C.P w = .ok u w ∧ ARel cx S w r u := by
  unfold convAV at h
  split at h
  · rename_i k n
    have := hx.int; subst this
    split at h
    · rename_i hs
      obtain ⟨d, hs⟩ := Option.isSome_iff_exists.1 hs
      simp only [Option.map_eq_some_iff] at h
      obtain ⟨k', hk, rfl⟩ := h
      exact ⟨_, by simp only [convert, Sem.run_bind, run_und w hs, run_und w (intT_some hk), Result.andThen_ok]; rfl, .of_int _ _⟩
    · cases h
  · rename_i s
    split at h
    · rename_i hs
      simp only [Bool.and_eq_true] at hs
      obtain ⟨d, hs2⟩ := Option.isSome_iff_exists.1 hs.2
      simp only [Option.some.injEq] at h; subst h
      obtain ⟨b, rfl, rfl⟩ := hx.str
      refine ⟨.string b, ?_, hx⟩
      simp only [convert, Sem.run_bind, run_und w hs2, run_und w (strT_some hs.1), Result.andThen_ok]
      cases d <;> rfl
    · cases h
  · split at h
    · rename_i hs
      simp only [Bool.and_eq_true] at hs
      simp only [Option.some.injEq] at h; subst h
      exact bytes_sound (nilsSl hx.dd) hs.1 hs.2 rfl
    · cases h
  · split at h
    · rename_i hs
      simp only [Bool.and_eq_true] at hs
      simp only [Option.map_eq_some_iff] at h
      obtain ⟨s, h1, rfl⟩ := h
      exact bytes_sound hx.dd hs.1 hs.2 h1
    · cases h
  · split at h
    · rename_i hs
      simp only [Bool.and_eq_true] at hs
      simp only [Option.map_eq_some_iff] at h
      obtain ⟨s, h1, rfl⟩ := h
      cases hx with
      | tsl _ _ b off cap hn hd hp => exact bytes_sound hd hs.1 hs.2 h1
    · cases h
  · cases h

theorem len_sound {R : ObjR} {C : Cfg} {cx : Cx} {S : St} {w : World} (hS : SRel R cx S w) {t : Nat} {x : AV} {n : Nat} {v : Value} {ty : Nat} (ht : lenTy C t x = true) (h : lenAV x S = some n) (hx : ARel cx S w x v) :
    (Builtin.len_ #[t] ty #[v]).run C.P w = .ok (.int .i64 n) w := by
  unfold lenTy at ht
  split at ht
  · rename_i hu
    split at ht
    · rename_i s
      obtain ⟨b, rfl, rfl⟩ := hx.str
      have hlen : b.data.toList.length = b.size := Array.length_toList
      simp only [lenAV, Option.some.injEq] at h
      subst h
      rw [hlen]
      simp [Builtin.len_, run_und w hu, goInt]
    · cases ht
  · rename_i e hu
    split at ht
    · have := nilsI hx.dd; subst this
      simp only [lenAV, Option.some.injEq] at h; subst h
      simp [Builtin.len_, run_und w hu, goInt]
    · obtain ⟨a, cap, rfl, _⟩ := slI hx.dd
      simp only [lenAV, Option.some.injEq] at h; subst h
      simp [Builtin.len_, run_und w hu, goInt]
    · cases hx
      simp only [lenAV, Option.some.injEq] at h; subst h
      simp [Builtin.len_, run_und w hu, goInt]
    · cases hx
      simp only [lenAV, Option.some.injEq] at h; subst h
      simp [Builtin.len_, run_und w hu, goInt]
    · cases ht
  · rename_i k e hu
    split at ht
    · have := hx.dd.val rfl; cases this
      simp only [lenAV, Option.some.injEq] at h; subst h
      simp [Builtin.len_, run_und w hu, goInt]
    · simp only [lenAV] at h
      split at h
      · rename_i es hg
        simp only [Option.some.injEq] at h; subst h
        cases hx with
        | map _ b hn hp =>
          have hb := hp (by simp [cur, hg])
          subst hb
          obtain ⟨_, _, ms, clk, a1, a2, _⟩ := hS.maps _ es hg
          simp [Builtin.len_, run_und w hu, goInt, getObj, Sem.run, a1, a2.1]
      · cases h
    · cases ht
  · cases ht

theorem minmax_sound {P : Program} {cx : Cx} {S : St} {w : World} {f : Int → Int → Int} {g : Value → Value → Sem Value} (hg : ∀ k a b, (g (.int k a) (.int k b)).run P w = .ok (.int k (f a b)) w) :
    ∀ (n : Nat) (l : List AV) (r : D) (vs : List Value), l.length = n → minmax f l = some r → vs.length = l.length → (∀ (i : Nat) (x : AV) (v : Value), l[i]? = some x → vs[i]? = some v → ARel cx S w x v) →
    ∃ v rest k z, vs = v :: rest ∧ r = .int k z ∧ (rest.foldlM g v).run P w = .ok (.int k z) w := by
  intro n
  induction n with
  | zero =>
    intro l r vs hl h
    cases l with
    | nil => unfold minmax at h; cases h
    | cons => simp at hl
  | succ n ih =>
    intro l r vs hl h hv hr
    unfold minmax at h
    split at h
    · rename_i k a
      simp only [Option.some.injEq] at h; subst h
      match vs, hv with
      | [v], _ =>
        have := (hr 0 _ v rfl rfl).int; subst this
        exact ⟨_, [], k, a, rfl, rfl, rfl⟩
    · rename_i k a k' b l'
      split at h
      · rename_i hk
        subst hk
        match vs, hv with
        | v1 :: v2 :: rest, hv =>
          have e1 := (hr 0 _ v1 rfl rfl).int; subst e1
          have e2 := (hr 1 _ v2 rfl rfl).int; subst e2
          obtain ⟨v, rest', k2, z, h1, h2, h3⟩ := ih (.d (.int k (f a b)) :: l') r (.int k (f a b) :: rest) (by simpa using hl) h (by simpa using hv) (fun i x u hx hu => by
            cases i with
            | zero => simp at hx hu; subst hx; subst hu; exact .of_int _ _
            | succ i => exact hr (i + 2) x u (by simpa using hx) (by simpa using hu))
          simp only [List.cons.injEq] at h1
          obtain ⟨rfl, rfl⟩ := h1
          refine ⟨_, _, k2, z, rfl, h2, ?_⟩
          simp only [List.foldlM_cons, Sem.run_bind, hg, Result.andThen_ok]
          exact h3
      · cases h
    · cases h

end Go.Ev

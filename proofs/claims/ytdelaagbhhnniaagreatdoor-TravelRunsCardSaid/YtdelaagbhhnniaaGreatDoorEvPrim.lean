import Derived.Test.YtdelaagbhhnniaaGreatDoorEvObj
namespace Go.Ev
open Go.Shelf Go.RowKit Go.Proofs
set_option linter.unusedVariables false
set_option linter.unusedSimpArgs false

abbrev Prim := List AV → St → Option (AV × St)

/-- What is asked of a function that is answered without its body. -/
structure PrimOk (R : ObjR) (P : Program) (f : Nat) (p : Prim) : Prop where
  pure : ∀ args S v S', p args S = some (v, S') → (toDs args).isSome = true → (toDT v).isSome = true → ∀ S2, p args S2 = some (v, S2)
  calls : ∀ args S v S', p args S = some (v, S') → (∃ fn, P.funcs[f]? = some fn ∧ fn.body.isSome = true ∧ fn.name ≠ "runtime.NumGoroutine") ∧
    ∀ cx w (us : List Value), SRel R cx S w → us.length = args.length → (∀ (i : Nat) (x : AV) (u : Value), args[i]? = some x → us[i]? = some u → ARel cx S w x u) →
    Calls P f us.toArray w (fun e w' => ∃ cx', SRel R cx' S' w' ∧ Ext cx S w cx' S' w' ∧ ∃ u, e = .returned u ∧ ARel cx' S' w' v u)

def primsOk (R : ObjR) (P : Program) : AL Prim → Prop
  | [] => True
  | (f, p) :: l => PrimOk R P f p ∧ primsOk R P l

theorem primsOk_get {R : ObjR} {P : Program} : ∀ {l : AL Prim} {f : Nat} {p : Prim}, primsOk R P l → AL.get l f = some p → PrimOk R P f p
  | [], f, p, _, h => by cases h
  | (k, q) :: l, f, p, hl, h => by
    rw [AL.get_cons] at h
    split at h
    · rename_i he
      cases h; subst he; exact hl.1
    · exact primsOk_get hl.2 h

/-- slices.Insert of numbers. -/
theorem insPrim_ok {R : ObjR} (hR : ObjOk R) {P : Program} {ρ : Shelf.Ren} (L : Proofs.Lays2.n21 P ρ) : PrimOk R P (ρ.f 21) insPrim where
  pure := fun args S v S' h h1 => by
    exfalso
    unfold insPrim at h
    split at h
    · simp [toDs, toD] at h1
    · simp [toDs, toD] at h1
    · cases h
  calls := fun args S v S' h => ⟨⟨_, L.f21, rfl, by show ¬ ("slices.Insert[[]int,int]" = "runtime.NumGoroutine"); decide⟩, fun cx w us hS hl hr => insPrim_sound hR L h hS hl hr⟩

/-! ### strings.Builder -/
def wbPrim (args : List AV) (S : St) : Option (AV × St) :=
  match args with
  | [.ptr id 0 0, .d (.int .u8 c)] => match S.H.get id with
    | some (.obj 1 (.str bs)) => if 0 ≤ c ∧ c < 256 ∧ bs.length + 1 ≤ bound then some (.d .nili, { S with H := S.H.set id (.obj 1 (.str (bs ++ [UInt8.ofNat c.toNat]))) }) else none
    | _ => none
  | _ => none
def wsPrim (args : List AV) (S : St) : Option (AV × St) :=
  match args with
  | [.ptr id 0 0, .d (.str s)] => match S.H.get id with
    | some (.obj 1 (.str bs)) => if bs.length + s.length ≤ bound then some (.tup [.d (.int .i64 (s.length : Nat)), .d .nili], { S with H := S.H.set id (.obj 1 (.str (bs ++ s))) }) else none
    | _ => none
  | _ => none
def stPrim (args : List AV) (S : St) : Option (AV × St) :=
  match args with
  | [.ptr id 0 0] => match S.H.get id with
    | some (.obj 1 (.str bs)) => some (.d (.str bs), { S with H := S.H.del id })
    | _ => none
  | _ => none

theorem bld_get {T e : Nat} {G : World → (Nat → Nat → Prop) → Prop} {cx : Cx} {S : St} {w : World} (hS : SRel (theR T e G) cx S w) {id : Nat} {l : List UInt8} (hk : S.H.get id = some (.obj 1 (.str l))) {u : Value} (hu : ARel cx S w (.ptr id 0 0) u) :
    u = .pointer (some ⟨cx.bm id, 0, none⟩) ∧ ∃ p v, BldAt T e (cx.bm id) p v (Lib.byteCells l) w ∧ ∀ c, cx.fp id c ↔ (c = cx.bm id ∨ v.ownBlock = some c) := by
  obtain ⟨⟨_, l', p, v, hx, h1, h2⟩ | ⟨h3, _⟩, _⟩ := hS.objs id _ _ hk
  rotate_left
  · cases h3
  cases hx
  cases hu with
  | ptr _ _ _ b hn hp =>
    have := hp (by simp [cur, hk, genD])
    subst this
    exact ⟨rfl, p, v, h1, h2⟩

theorem wbPrim_ok {G : World → (Nat → Nat → Prop) → Prop} (hG : StatOk G) {P : Program} {ρ : Ren} (L : Lays.n167 P ρ) (X : Builder.Extra P ρ) : PrimOk (theR (ρ.t 72) (ρ.t 5) G) P (ρ.f 167) wbPrim where
  pure := fun args S v S' h h1 => by
    exfalso
    unfold wbPrim at h
    split at h
    · simp [toDs, toD] at h1
    · cases h
  calls := fun args S v S' h => ⟨⟨_, L.f167, rfl, by show ¬ ("(*strings.Builder).WriteByte" = "runtime.NumGoroutine"); decide⟩, fun cx w us hS hl hr => by
    unfold wbPrim at h
    split at h
    · rename_i id c
      split at h
      · rename_i bs hk
        split at h
        · rename_i hc
          simp only [Option.some.injEq, Prod.mk.injEq] at h
          obtain ⟨rfl, rfl⟩ := h
          match us, hl with
          | [u0, u1], _ =>
          obtain ⟨rfl, p, v, h1, h2⟩ := bld_get hS hk (hr 0 _ _ rfl rfl)
          have r1 := hr 1 _ _ rfl rfl
          cases r1 with
          | d _ _ r1 =>
          have a1 := r1.val rfl; cases a1
          refine (bld_writeByte L X h1 c (by rw [Lib.byteCells_length]; exact hc.2.2)).mono (fun e w' hp => ?_)
          obtain ⟨rfl, hp⟩ := hp
          have hb : Lib.byteCells bs ++ [.int .u8 c] = Lib.byteCells (bs ++ [UInt8.ofNat c.toNat]) := by
            have : ((UInt8.ofNat c.toNat).toNat : Int) = c := by
              rw [UInt8.toNat_ofNat']
              have h0 := hc.1; have h1 := hc.2.1
              omega
            simp only [Lib.byteCells, List.map_append, List.map_cons, List.map_nil, this]
          rw [hb] at hp
          obtain ⟨cx', k1, k2⟩ := bld_write hG hS hk h2 hp
          exact ⟨cx', k1, k2, _, rfl, .d _ _ (DRel.of_cell .nili rfl)⟩
        · cases h
      · cases h
    · cases h⟩

theorem wsPrim_ok {G : World → (Nat → Nat → Prop) → Prop} (hG : StatOk G) {P : Program} {ρ : Ren} (L : Lays.n166 P ρ) (X : Builder.Extra P ρ) : PrimOk (theR (ρ.t 72) (ρ.t 5) G) P (ρ.f 166) wsPrim where
  pure := fun args S v S' h h1 => by
    exfalso
    unfold wsPrim at h
    split at h
    · simp [toDs, toD] at h1
    · cases h
  calls := fun args S v S' h => ⟨⟨_, L.f166, rfl, by show ¬ ("(*strings.Builder).WriteString" = "runtime.NumGoroutine"); decide⟩, fun cx w us hS hl hr => by
    unfold wsPrim at h
    split at h
    · rename_i id s
      split at h
      · rename_i bs hk
        split at h
        · rename_i hc
          simp only [Option.some.injEq, Prod.mk.injEq] at h
          obtain ⟨rfl, rfl⟩ := h
          match us, hl with
          | [u0, u1], _ =>
          obtain ⟨rfl, p, v, h1, h2⟩ := bld_get hS hk (hr 0 _ _ rfl rfl)
          have r1 := hr 1 _ _ rfl rfl
          cases r1 with
          | d _ _ r1 =>
          have a1 := r1.val rfl; cases a1
          rename_i s xx
          refine (bld_writeString L X h1 s (by rw [Lib.byteCells_length]; simpa using hc)).mono (fun e w' hp => ?_)
          obtain ⟨rfl, hp⟩ := hp
          have hb : Lib.byteCells bs ++ Lib.strCells s = Lib.byteCells (bs ++ s.data.toList) := by
            simp [Lib.byteCells, Lib.strCells]
          rw [hb] at hp
          obtain ⟨cx', k1, k2⟩ := bld_write hG hS hk h2 hp
          refine ⟨cx', k1, k2, _, rfl, .tup _ [.int .i64 (s.size : Nat), .nilIface] rfl (fun i x v hx hv => ?_)⟩
          match i, hx, hv with
          | 0, hx, hv =>
            simp at hx hv; subst hx; subst hv
            exact .d _ _ (DRel.of_cell (.int _ _) rfl)
          | 1, hx, hv =>
            simp at hx hv; subst hx; subst hv
            exact .d _ _ (DRel.of_cell .nili rfl)
        · cases h
      · cases h
    · cases h⟩

theorem stPrim_ok {G : World → (Nat → Nat → Prop) → Prop} (hG : StatOk G) {P : Program} {ρ : Ren} (L : Lays.n169 P ρ) (X : Builder.Extra P ρ) : PrimOk (theR (ρ.t 72) (ρ.t 5) G) P (ρ.f 169) stPrim where
  pure := fun args S v S' h h1 => by
    exfalso
    unfold stPrim at h
    split at h
    · simp [toDs, toD] at h1
    · cases h
  calls := fun args S v S' h => ⟨⟨_, L.f169, rfl, by show ¬ ("(*strings.Builder).String" = "runtime.NumGoroutine"); decide⟩, fun cx w us hS hl hr => by
    unfold stPrim at h
    split at h
    · rename_i id
      split at h
      · rename_i bs hk
        simp only [Option.some.injEq, Prod.mk.injEq] at h
        obtain ⟨rfl, rfl⟩ := h
        match us, hl with
        | [u0], _ =>
        obtain ⟨rfl, p, v, h1, h2⟩ := bld_get hS hk (hr 0 _ _ rfl rfl)
        refine (bld_string L X h1).mono (fun e w' hp => ?_)
        obtain ⟨rfl, hp⟩ := hp
        obtain ⟨k1, k2⟩ := bld_away hG hS hk h2 hp
        refine ⟨cx, k1, k2, _, rfl, .d _ _ (DRel.of_cell ?_ rfl)⟩
        have := CRel.str (w := w') (fr := cx.fr) ⟨bs.toArray⟩
        simpa using this
      · cases h
    · cases h⟩

end Go.Ev

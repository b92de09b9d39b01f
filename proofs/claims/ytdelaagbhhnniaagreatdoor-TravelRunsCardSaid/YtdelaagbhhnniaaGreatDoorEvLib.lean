import Derived.Test.YtdelaagbhhnniaaGreatDoorEvPrim
import Derived.Shelf.Strings.OnBuilder
import Derived.Shelf.Strings.SplitShaped
import Derived.Shelf.Strings.SlTrimAscii
import Derived.Shelf.Small.Strs
import Derived.Shelf.Strings.Cut
namespace Go.Ev
open Go.Shelf Go.RowKit Go.Proofs
set_option linter.unusedVariables false
set_option linter.unusedSimpArgs false

/-! ### Functions of plain data -/

/-- What a function of plain data leaves. -/
def Leaves (w : World) (fr : Nat → Nat → Prop) (v : AV) (e : Ending) (w' : World) : Prop :=
  Below w.heap.size w w' ∧ ∃ u, e = .returned u ∧ ∀ cx S, cx.fr = fr → ARel cx S w' v u

def purePrim (spec : List D → Option AV) : Prim := fun args S => match toDs args with
  | some ds => (spec ds).map fun v => (v, S)
  | none => none

theorem purePrim_ok {R : ObjR} (hR : ObjOk R) {P : Program} {f : Nat} {spec : List D → Option AV} (hd : ∀ ds v, spec ds = some v → (toDT v).isSome = true)
    (hb : ∃ fn, P.funcs[f]? = some fn ∧ fn.body.isSome = true ∧ fn.name ≠ "runtime.NumGoroutine")
    (hc : ∀ ds v, spec ds = some v → ∀ (w : World) (fr : Nat → Nat → Prop) (us : List Value), R.G w fr → (∀ b o, fr b o → b < w.heap.size) → us.length = ds.length → (∀ (i : Nat) (y : D) (u : Value), ds[i]? = some y → us[i]? = some u → DRel w fr y u) →
      Calls P f us.toArray w (Leaves w fr v)) : PrimOk R P f (purePrim spec) where
  pure := fun args S v S' h _ _ S2 => by
    unfold purePrim at h ⊢
    split at h
    · rename_i ds hds
      simp only [Option.map_eq_some_iff, Prod.mk.injEq] at h
      obtain ⟨a, h1, rfl, _⟩ := h
      simp [hds, h1]
    · cases h
  calls := fun args S v S' h => ⟨hb, fun cx w us hS hl hr => by
    unfold purePrim at h
    split at h
    · rename_i ds hds
      simp only [Option.map_eq_some_iff, Prod.mk.injEq] at h
      obtain ⟨a, h1, rfl, rfl⟩ := h
      obtain ⟨d1, d2⟩ := toDs_spec hds
      refine (hc ds a h1 w cx.fr us hS.stat hS.lt (by rw [hl, d1]) (fun i y u hy hu => ?_)).mono (fun e w' hp => ?_)
      · have hlt : i < args.length := by rw [← d1]; exact (List.getElem?_eq_some_iff.1 hy).1
        have ha := List.getElem?_eq_getElem hlt
        exact toD_sound (d2 i _ y ha hy) (hr i _ u ha hu)
      · obtain ⟨hbl, u, rfl, hv⟩ := hp
        have e : Ext cx S w cx S w' := Ext.old hS hbl.size (fun b hb => hbl.block b hb) hbl.os hbl.tape hbl.output
        exact ⟨cx, SRel.old hR hS hbl.size (fun b hb => hbl.block b hb) e, e, u, rfl, hv cx S rfl⟩
    · cases h⟩

theorem str_rel (w : World) (fr : Nat → Nat → Prop) (l : List UInt8) : DRel w fr (.str l) (.string ⟨l.toArray⟩) := by
  have := CRel.str (w := w) (fr := fr) ⟨l.toArray⟩
  exact DRel.of_cell (by simpa using this) rfl

theorem str_inv {w : World} {fr : Nat → Nat → Prop} {l : List UInt8} {u : Value} (h : DRel w fr (.str l) u) : u = .string ⟨l.toArray⟩ := by
  have a := h.val rfl
  cases a
  simp

/-! ### strings.Trim at a set of ASCII letters -/
def trimSpec : List D → Option AV
  | [.str s, .str c] => if s.length ≤ bound ∧ c.length ≤ 1000 ∧ (c.all fun b => decide (b.toNat < 128)) = true then some (.d (.str (Lib.trimS s c))) else none
  | _ => none

theorem trimPrim_ok {R : ObjR} (hR : ObjOk R) {P : Program} {ρ : Ren} (L : Lays.n160 P ρ) (h116 : (P.info? (ρ.t 116)).map (fun i => (i.zero, i.size)) = some (some (.agg (Array.replicate 256 (.bool false))), 256)) :
    PrimOk R P (ρ.f 160) (purePrim trimSpec) := by
  refine purePrim_ok hR (fun ds v h => ?_) ⟨_, L.f160, rfl, by show ¬ ("strings.Trim" = "runtime.NumGoroutine"); decide⟩ (fun ds v h w fr us hG hfr hl hr => ?_)
  · unfold trimSpec at h
    split at h
    · split at h
      · simp only [Option.some.injEq] at h; subst h; rfl
      · cases h
    · cases h
  · unfold trimSpec at h
    split at h
    · rename_i s c
      split at h
      · rename_i hc
        obtain ⟨h1, h2, h3⟩ := hc
        simp only [Option.some.injEq] at h; subst h
        match us, hl with
        | [u0, u1], _ =>
        obtain rfl := str_inv (hr 0 _ _ rfl rfl)
        obtain rfl := str_inv (hr 1 _ _ rfl rfl)
        refine (Any.strings_Trim_laid L h116 ⟨s.toArray⟩ ⟨c.toArray⟩ w (by simp [ByteArray.size]; unfold bound at h1; omega) (by simp [ByteArray.size]; omega) (by simpa using ascii_of_all h3)).mono (fun e w' hp => ?_)
        obtain ⟨rfl, hb⟩ := hp
        exact ⟨hb, _, rfl, fun cx S _ => .d _ _ (by simpa using str_rel w' cx.fr (Lib.trimS s c))⟩
      · cases h
    · cases h

/-! ### strings.IndexByte -/
def ixbSpec : List D → Option AV
  | [.str s, .int .u8 c] => some (.d (.int .i64 (Lib.indexByte s c.toNat.toUInt8)))
  | _ => none

theorem ixbPrim_ok {R : ObjR} (hR : ObjOk R) {P : Program} {ρ : Ren} (L : Lays.n137 P ρ) : PrimOk R P (ρ.f 137) (purePrim ixbSpec) := by
  refine purePrim_ok hR (fun ds v h => ?_) ⟨_, L.f137, rfl, by show ¬ ("strings.IndexByte" = "runtime.NumGoroutine"); decide⟩ (fun ds v h w fr us hG hfr hl hr => ?_)
  · unfold ixbSpec at h
    split at h
    · simp only [Option.some.injEq] at h; subst h; rfl
    · cases h
  · unfold ixbSpec at h
    split at h
    · rename_i s c
      simp only [Option.some.injEq] at h; subst h
      match us, hl with
      | [u0, u1], _ =>
      obtain rfl := str_inv (hr 0 _ _ rfl rfl)
      have a1 := (hr 1 _ _ rfl rfl).val rfl
      cases a1
      refine (Any.strings_IndexByte L ⟨s.toArray⟩ c w).mono (fun e w' hp => ?_)
      obtain ⟨rfl, rfl⟩ := hp
      exact ⟨Below.refl _ _, _, rfl, fun cx S _ => .d _ _ (DRel.of_cell (by simpa using CRel.int (w := w') (fr := cx.fr) .i64 (Lib.indexByte s c.toNat.toUInt8)) rfl)⟩
    · cases h

/-! ### strings.Split at one letter -/
def splitC (c : UInt8) : List UInt8 → List (List UInt8)
  | [] => [[]]
  | b :: l => if b == c then [] :: splitC c l else match splitC c l with
    | [] => [[b]]
    | x :: r => (b :: x) :: r

theorem splitC_none (c : UInt8) : ∀ (s : List UInt8), c ∉ s → splitC c s = [s]
  | [], _ => rfl
  | b :: l, h => by
    have h1 : ¬ (b == c) = true := fun q => h (by rw [eq_of_beq q]; exact List.mem_cons_self)
    rw [splitC, if_neg h1, splitC_none c l (fun q => h (List.mem_cons_of_mem _ q))]

theorem splitC_some (c : UInt8) (t : List UInt8) : ∀ (s : List UInt8), c ∉ s → splitC c (s ++ c :: t) = s :: splitC c t
  | [], _ => by simp [splitC]
  | b :: l, h => by
    have h1 : ¬ (b == c) = true := fun q => h (by rw [eq_of_beq q]; exact List.mem_cons_self)
    rw [List.cons_append, splitC, if_neg h1, splitC_some c t l (fun q => h (List.mem_cons_of_mem _ q))]

theorem occ_one (s : List UInt8) (c : UInt8) (i : Nat) : Lib.occAt s [c] i = (s[i]? == some c) := by
  unfold Lib.occAt
  cases h : s.drop i with
  | nil =>
    have : s[i]? = none := by rw [List.getElem?_eq_none]; have := congrArg List.length h; simp at this; omega
    rw [this]; rfl
  | cons b l =>
    have : s[i]? = some b := by have := congrArg (·[0]?) h; simpa using this
    rw [this]
    simp only [List.isPrefixOf_cons_cons, List.isPrefixOf_nil_left, Bool.and_true]
    by_cases hb : c = b
    · subst hb; simp
    · have h1 : (c == b) = false := by simpa using hb
      have h2 : (some b == some c) = false := by simpa using Ne.symm hb
      rw [h1, h2]

theorem splitK_one (c : UInt8) : ∀ (n : Nat) (s : List UInt8), s.length ≤ n → Lib.splitK [c] 0 (Lib.count s [c]) s = splitC c s := by
  intro n
  induction n with
  | zero =>
    intro s hs
    have : s = [] := List.eq_nil_of_length_eq_zero (by omega)
    subst this
    rfl
  | succ n ih =>
    intro s hs
    rcases Lib.index_spec s [c] with ⟨h1, h2⟩ | ⟨i, h1, h2, h3, h4⟩
    · rw [Lib.count_miss h1, Lib.splitK]
      refine (splitC_none c s (fun hm => ?_)).symm
      obtain ⟨j, hj, hjs⟩ := List.getElem_of_mem hm
      have := h2 j (by omega)
      rw [occ_one, List.getElem?_eq_getElem hj, hjs] at this
      simp at this
    · rw [Lib.count_hit (by simp) h1]
      have hne : ¬ (Lib.index s [c] == -1) = true := fun q => by have := beq_iff_eq.1 q; omega
      rw [Nat.add_comm, Lib.splitK, if_neg hne, h1]
      have e1 : ((i : Int)).toNat = i := by omega
      rw [e1]
      rw [occ_one] at h3
      have hi : s[i]? = some c := by simpa using h3
      have hlt := (List.getElem?_eq_some_iff.1 hi).1
      have hs2 : s = s.take i ++ c :: s.drop (i + 1) := by
        have := List.getElem_cons_drop hlt
        rw [(List.getElem?_eq_some_iff.1 hi).2] at this
        rw [this, List.take_append_drop]
      have hnm : c ∉ s.take i := fun hm => by
        obtain ⟨j, hj, hjs⟩ := List.getElem_of_mem hm
        simp at hj
        have := h4 j (by omega)
        rw [occ_one, List.getElem?_eq_getElem (by omega)] at this
        simp at hjs
        simp [hjs] at this
      conv => rhs; rw [hs2]
      rw [splitC_some c _ _ hnm]
      simp only [Nat.add_zero, List.length_singleton]
      rw [ih _ (by simp; omega)]

def splitSpec : List D → Option AV
  | [.str s, .str [c]] => if s.length ≤ 1000000 then some (.d (.sl ((splitC c s).map .str) false)) else none
  | _ => none

/-- The library's variable MaxLen holds a number. -/
def maxLenG (g : Nat) (w : World) (fr : Nat → Nat → Prop) : Prop := (∃ m, w.cell? ⟨g, 0, none⟩ = some (.int .i64 m)) ∧ ¬ fr g 0
theorem maxLenG_ok (g : Nat) : StatOk (maxLenG g) := fun w w' fr fr' h hp => by
  obtain ⟨⟨m, h1⟩, h2⟩ := h
  obtain ⟨a, b⟩ := hp g 0 _ h2 h1
  exact ⟨⟨m, a⟩, b⟩

theorem strs_rel {w : World} {fr : Nat → Nat → Prop} {xs : List (List UInt8)} {b el : Nat} {arr : Array Value} {fz : Nat × Nat} (hb : w.heap[b]? = some (.cells arr el fz)) (hfr : ∀ o, ¬ fr b o)
    (ha : arr.toList = xs.map fun l => Value.string ⟨l.toArray⟩) (hne : xs ≠ []) : DRel w fr (.sl (xs.map .str) false) (.slice (some ⟨b, 0, none⟩) xs.length xs.length) := by
  refine DRel.of_cell ?_ rfl
  have := CRel.sl (w := w) (fr := fr) (xs.map .str) false b 0 xs.length 1 (fun i => [(arr.toList[i]?).getD .nilIface]) (by simpa using hne) (by simp) (fun q => by cases q) (fun i x hx => by
    simp only [List.getElem?_map, Option.map_eq_some_iff] at hx
    obtain ⟨a, _, rfl⟩ := hx; rfl) (fun i _ => rfl) (fun i x hx => by
    simp only [List.getElem?_map, Option.map_eq_some_iff] at hx
    obtain ⟨a, h1, rfl⟩ := hx
    rw [ha, List.getElem?_map, h1]
    exact (str_rel w fr a).val rfl) (fun i j v hi hv => by
    cases j with
    | zero =>
      simp only [List.getElem?_cons_zero, Option.some.injEq] at hv
      refine ⟨?_, hfr _⟩
      rw [cell_of hb, Nat.mul_one, Nat.zero_add, Nat.add_zero, ← hv]
      have hi' : i < arr.toList.length := by rw [ha]; simpa using hi
      rw [List.getElem?_eq_getElem hi', Option.getD_some, ← Array.getElem?_toList, List.getElem?_eq_getElem hi']
    | succ j => simp at hv)
  simpa using this

theorem splitC_ne (c : UInt8) (s : List UInt8) : splitC c s ≠ [] := by
  cases s with
  | nil => simp [splitC]
  | cons b l =>
    unfold splitC
    split
    · simp
    · split <;> simp

theorem splitPrim_ok {R : ObjR} (hR : ObjOk R) {P : Program} {ρ : Ren} (L : Lays.n146 P ρ) (hi9 : (P.info? (ρ.t 9)).map (fun i => (i.zero, i.size, i.bytes)) = some (some (.string ByteArray.empty), 1, 16))
    (hG : ∀ w fr, R.G w fr → ∃ m, w.cell? ⟨(ρ.g 1), 0, none⟩ = some (.int .i64 m)) : PrimOk R P (ρ.f 146) (purePrim splitSpec) := by
  refine purePrim_ok hR (fun ds v h => ?_) ⟨_, L.f146, rfl, by show ¬ ("strings.Split" = "runtime.NumGoroutine"); decide⟩ (fun ds v h w fr us hGw hfr hl hr => ?_)
  · unfold splitSpec at h
    split at h
    · split at h
      · simp only [Option.some.injEq] at h; subst h; rfl
      · cases h
    · cases h
  · unfold splitSpec at h
    split at h
    · rename_i s c
      split at h
      · rename_i hc
        simp only [Option.some.injEq] at h; subst h
        match us, hl with
        | [u0, u1], _ =>
        obtain rfl := str_inv (hr 0 _ _ rfl rfl)
        obtain rfl := str_inv (hr 1 _ _ rfl rfl)
        obtain ⟨m, hm⟩ := hG w fr hGw
        refine (Any.strings_Split L hi9 ⟨s.toArray⟩ ⟨#[c]⟩ m w (by simp [ByteArray.size]; omega) hm (by simp [ByteArray.size])).mono (fun e w' hp => ?_)
        obtain ⟨rfl, rfl⟩ := hp
        have hq : (Lib.splitB ⟨#[c]⟩ 0 (Lib.countB ⟨s.toArray⟩ ⟨#[c]⟩) ⟨s.toArray⟩).map (·.data.toList) = splitC c s := by
          rw [Lib.splitB_data]
          have := splitK_one c s.length s (Nat.le_refl _)
          simpa [Lib.countB] using this
        have hlen : Lib.countB ⟨s.toArray⟩ ⟨#[c]⟩ + 1 = (splitC c s).length := by
          rw [← hq, List.length_map, Lib.splitB_all _ (by simp [ByteArray.size]) 0 _ _ rfl]
        refine ⟨(Below.refl _ _).alloc (Nat.le_refl _) _, _, rfl, fun cx S hcx => .d _ _ ?_⟩
        rw [hlen]
        refine strs_rel (arr := ((Lib.splitB ⟨#[c]⟩ 0 (Lib.countB ⟨s.toArray⟩ ⟨#[c]⟩) ⟨s.toArray⟩).map Value.string).toArray) (heap_alloc_new w _) (fun o q => ?_) ?_ (splitC_ne c s)
        · rw [hcx] at q; have := hfr _ _ q; omega
        · rw [← hq]
          simp
      · cases h
    · cases h

/-! ### strings.Join -/
def strsOf : List D → Option (List (List UInt8))
  | [] => some []
  | .str s :: l => (strsOf l).map (s :: ·)
  | _ :: _ => none

theorem strsOf_some : ∀ {l : List D} {xs : List (List UInt8)}, strsOf l = some xs → l = xs.map .str
  | [], xs, h => by simp [strsOf] at h; subst h; rfl
  | x :: l, xs, h => by
    cases x <;> try (cases h; done)
    simp only [strsOf, Option.map_eq_some_iff] at h
    obtain ⟨ys, h1, rfl⟩ := h
    rw [strsOf_some h1]; rfl

def joinSpec : List D → Option AV
  | [.nils, .str _] => some (.d (.str []))
  | [.sl l _, .str sep] => match strsOf l with
    | some xs => if (Lib.join xs sep).length ≤ bound ∧ xs.length ≤ bound then some (.d (.str (Lib.join xs sep))) else none
    | none => none
  | _ => none

theorem joinPrim_ok {R : ObjR} (hR : ObjOk R) {P : Program} {ρ : Ren} (L : Lays.n156 P ρ) (X : Builder.Extra P ρ) : PrimOk R P (ρ.f 156) (purePrim joinSpec) := by
  refine purePrim_ok hR (fun ds v h => ?_) ⟨_, L.f156, rfl, by show ¬ ("strings.Join" = "runtime.NumGoroutine"); decide⟩ (fun ds v h w fr us hG hfr hl hr => ?_)
  · unfold joinSpec at h
    split at h
    · simp only [Option.some.injEq] at h; subst h; rfl
    · split at h
      · split at h
        · simp only [Option.some.injEq] at h; subst h; rfl
        · cases h
      · cases h
    · cases h
  · unfold joinSpec at h
    split at h
    · simp only [Option.some.injEq] at h; subst h
      match us, hl with
      | [u0, u1], _ =>
      have a0 := (hr 0 _ _ rfl rfl).val rfl
      cases a0
      obtain rfl := str_inv (hr 1 _ _ rfl rfl)
      refine (Any.strings_Join_none L X none 0 _ w).mono (fun e w' hp => ?_)
      obtain ⟨rfl, rfl⟩ := hp
      exact ⟨Below.refl _ _, _, rfl, fun cx S _ => .d _ _ (str_rel w' cx.fr [])⟩
    · rename_i l t sep
      split at h
      · rename_i xs hxs
        split at h
        · rename_i hc
          simp only [Option.some.injEq] at h; subst h
          have := strsOf_some hxs
          subst this
          match us, hl with
          | [u0, u1], _ =>
          obtain rfl := str_inv (hr 1 _ _ rfl rfl)
          have a0 := (hr 0 _ _ rfl rfl).val rfl
          have key : ∀ (q : List UInt8) (e : Ending) (w' : World), e = .returned (.string ⟨q.toArray⟩) → Below w.heap.size w w' → Leaves w fr (.d (.str q)) e w' := fun q e w' h1 h2 =>
            ⟨h2, _, h1, fun cx S _ => .d _ _ (str_rel w' cx.fr q)⟩
          generalize hys : xs.map D.str = ys at a0
          cases a0 with
          | sl0 a cap tt ht =>
            have : xs = [] := by simpa using hys
            subst this
            refine (Any.strings_Join_none L X a cap _ w).mono (fun e w' hp => ?_)
            obtain ⟨rfl, rfl⟩ := hp
            exact key [] _ _ rfl (Below.refl _ _)
          | sl ys tt b off cap sz vs hne hcap htt hsz hlen hx hcell =>
            subst hys
            have hne' : xs ≠ [] := by simpa using hne
            have hpos : 0 < xs.length := List.length_pos_iff.2 hne'
            have h0 : (xs.map D.str)[0]? = some (.str (xs[0])) := by simp [hpos]
            have hsz1 : sz = 1 := (hsz 0 _ h0).symm
            subst hsz1
            have hcells : ∀ (j : Nat) (x : ByteArray), (xs.map fun l => (⟨l.toArray⟩ : ByteArray))[j]? = some x → w.cell? ⟨b, off + j, none⟩ = some (.string x) := fun j x hj => by
              simp only [List.getElem?_map, Option.map_eq_some_iff] at hj
              obtain ⟨s, hs, rfl⟩ := hj
              have hjl : j < (xs.map D.str).length := by simpa using (List.getElem?_eq_some_iff.1 hs).1
              have hr1 := hx j (.str s) (by simp [hs])
              have hl1 := hlen j hjl
              obtain ⟨v, hv⟩ : ∃ v, vs j = [v] := by
                match hh : vs j, hl1 with
                | [v], _ => exact ⟨v, rfl⟩
              rw [hv] at hr1
              obtain rfl := str_inv (DRel.of_cell hr1 rfl)
              have := (hcell j 0 (.string ⟨s.toArray⟩) hjl (by rw [hv]; rfl)).1
              simpa using this
            have hbk : b < w.heap.size := cell_lt (hcells 0 ⟨(xs[0]).toArray⟩ (by simp [hpos]))
            have hjn : (xs.map fun l => (⟨l.toArray⟩ : ByteArray)).map (·.data.toList) = xs := by rw [List.map_map]; exact List.map_id'' (fun _ => rfl) xs
            have hb2 : bound ≤ 140737488355328 := by decide
            refine (Any.strings_Join L X b off cap (xs.map fun l => (⟨l.toArray⟩ : ByteArray)) ⟨sep.toArray⟩ w hcells hbk (by rw [List.length_map]; omega) (by simpa using hcap) (by rw [hjn]; simp only []; omega)).mono (fun e w' hp => ?_) |> fun z => by simpa using z
            obtain ⟨rfl, hb3⟩ := hp
            rw [hjn]
            exact key _ _ _ rfl hb3
        · cases h
      · cases h
    · cases h

/-! ### strings.Cut -/
def cutSpec : List D → Option AV
  | [.str s, .str sep] => if s.length ≤ 4000000000 then some (.tup [.d (.str (Lib.cut s sep).1), .d (.str (Lib.cut s sep).2.1), .d (.bool (Lib.cut s sep).2.2)]) else none
  | _ => none

theorem cutPrim_ok {R : ObjR} (hR : ObjOk R) {P : Program} {ρ : Ren} (L : Lays.n145 P ρ)
    (hG : ∀ w fr, R.G w fr → ∃ m, w.cell? ⟨(ρ.g 1), 0, none⟩ = some (.int .i64 m)) : PrimOk R P (ρ.f 145) (purePrim cutSpec) := by
  refine purePrim_ok hR (fun ds v h => ?_) ⟨_, L.f145, rfl, by show ¬ ("strings.Cut" = "runtime.NumGoroutine"); decide⟩ (fun ds v h w fr us hGw hfr hl hr => ?_)
  · unfold cutSpec at h
    split at h
    · split at h
      · simp only [Option.some.injEq] at h; subst h; rfl
      · cases h
    · cases h
  · unfold cutSpec at h
    split at h
    · rename_i s c
      split at h
      · rename_i hc
        simp only [Option.some.injEq] at h; subst h
        match us, hl with
        | [u0, u1], _ =>
        obtain rfl := str_inv (hr 0 _ _ rfl rfl)
        obtain rfl := str_inv (hr 1 _ _ rfl rfl)
        obtain ⟨m, hm⟩ := hG w fr hGw
        refine (Any.strings_Cut L ⟨s.toArray⟩ ⟨c.toArray⟩ m w (by simp [ByteArray.size]; omega) hm).mono (fun e w' hp => ?_)
        obtain ⟨rfl, n, rfl⟩ := hp
        refine ⟨⟨rfl, rfl, rfl, Nat.le_refl _, fun _ _ => rfl⟩, _, rfl, fun cx S hcx => ?_⟩
        refine .tup _ [_, _, _] rfl (fun j x u hx hu => ?_)
        match j, hx, hu with
        | 0, hx, hu => simp at hx hu; subst hx; subst hu; exact .d _ _ (str_rel _ _ _)
        | 1, hx, hu => simp at hx hu; subst hx; subst hu; exact .d _ _ (str_rel _ _ _)
        | 2, hx, hu => simp at hx hu; subst hx; subst hu; exact .of_bool _
      · cases h
    · cases h

end Go.Ev

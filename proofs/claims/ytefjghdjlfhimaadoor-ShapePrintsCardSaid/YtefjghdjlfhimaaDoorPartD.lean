import Derived.Test.YtefjghdjlfhimaaDoorPartC
import Derived.Shelf.Spec.SlicesInsertGrow
import Derived.Shelf.Strings.Builder1
import Derived.Shelf.Strings.OnBuilder
import Derived.Shelf.Strings.SplitShaped
import Derived.Shelf.Strings.SlTrimAscii
import Derived.Shelf.Small.Strs
import Derived.Shelf.Strings.Cut
import Derived.DataReads
import GoSem.ClaimChange
import Derived.WideShapes
import Derived.ChangeShapes
namespace Go.Ev
noncomputable section
set_option linter.unusedVariables false
set_option linter.unusedSimpArgs false
variable {R : ObjR} {P : Program} {B : St}

theorem dataOf_src {C : Cfg} {S : St} {y : AV} {ys : List D} {sz : Nat} (h : dataOf y = some ys) (hs : sizes sz ys = true) : srcCells S sz y = some ((ys.map D.cells).flatten.map .d, ys.length) := by
  cases y with
  | d x => cases x <;> simp only [dataOf] at h <;> first | (cases h; done) | (cases h; simp [srcCells, asRowAV, dataOf, hs, sizes]; try simpa [sizes] using hs)
  | tsl zs tok => simp only [dataOf] at h; cases h; simp [srcCells, asRowAV, dataOf, hs]
  | _ => simp only [dataOf] at h; cases h
section
variable {C : Cfg} {ρ : Operand → Option AV} {S : St} {l : List Asn} {x y : Operand} {t : Nat} {v : AV}
/-- A row is put in place of something that has no memory, or of itself. -/
theorem Has.same {B S : St} {l : List Asn} (H : Has B S l) {i : Nat} {a a' : Asn} (hi : l[i]? = some a) (hf : a'.fp = a.fp) (ha : a'.ok S) : Has B S (l.set i a') :=
  H.set hi hf ha H.wf (fun _ _ => rfl) (fun _ _ => rfl) rfl

theorem oper_rowAppend {i u : Nat} {vy : AV} {xs ys : List D} {el nb : Nat} (H : Has B S l) (hx : ρ x = some v) (hy : ρ y = some vy) (hi : l[i]? = some (.row (szOf C.P el) v xs)) (hd : dataOf vy = some ys) (hnr : C.rowT t = true) (hu : okSrc C u = true) (he : elemSl C.P t = some el)
    (hb : (xs.length + ys.length) * nb ≤ bound) (hnb : bytesOf C.P el = nb) (h0 : (Nat.blt 0 nb && Nat.ble nb 65536) = true) (hsy : sizes (szOf C.P el) ys = true) (hfy : ∀ z ∈ ys, flatC z.cells = true) (hpos : Nat.blt 0 (szOf C.P el) = true) (hz : zeroOk C el = true) :
    ∃ v' S', oper C ρ S (.call { callee := .builtin .append, args := #[x, y], argTypes := #[t, u] }) = some (.val v' S') ∧ Has B S' (l.set i (.row (szOf C.P el) v' (xs ++ ys))) := by
  subst hnb
  have hm : mapO ρ [x, y] = some [v, vy] := by simp only [mapO, hx, hy, Option.map_some]
  have hpos : 0 < szOf C.P el := Nat.le_of_ble_eq_true hpos
  have hinfo : (C.P.info? el).isSome = true := by
    unfold zeroOk at hz
    cases hq : C.P.info? el with
    | none => rw [hq] at hz; cases hz
    | some x => rfl
  have hgrow : ∀ n, n = xs.length + ys.length → growOk C el n = true := fun n hn => by
    simp only [Bool.and_eq_true] at h0
    simp only [growOk, hz, Bool.and_true, Bool.and_eq_true]
    exact ⟨⟨Nat.ble_eq_true_of_le (by rw [hn]; exact hb), h0.1⟩, h0.2⟩
  have hsrc := dataOf_src (C := C) (S := S) hd hsy
  have hil : i < l.length := (List.getElem?_eq_some_iff.1 hi).1
  have hsame : ∀ w, l[i]? = some (.row (szOf C.P el) w xs) → l.set i (.row (szOf C.P el) w xs) = l := fun w hw => by
    apply List.ext_getElem?
    intro j
    rw [List.getElem?_set]
    by_cases hij : i = j
    · subst hij; simp [hil]; exact (List.getElem?_eq_some_iff.1 hw).2.symm
    · simp [hij]
  have fresh : S.H.get S.nx = none := H.wf.fresh (Nat.le_refl _)
  have hysz := sizes_all hsy
  have first : ∀ w, (w = .d .nils ∨ w = .d (.sl [] true)) → l[i]? = some (.row (szOf C.P el) w xs) → xs = [] → ∃ v' S', appendFirst C el S w [] vy = some (v', S') ∧ Has B S' (l.set i (.row (szOf C.P el) v' (xs ++ ys))) := fun w hw hiw hxs => by
    subst hxs
    by_cases hn : ys.length = 0
    · have : ys = [] := List.eq_nil_of_length_eq_zero hn
      subst this
      refine ⟨w, S, ?_, ?_⟩
      · simp only [appendFirst, hsrc, List.length_nil, if_true, hinfo]
      · rw [List.append_nil, hsame w hiw]; exact H
    · refine ⟨.msl S.nx 0 0 ys.length ys.length (szOf C.P el), { S with H := S.H.set S.nx (.cells 0 ((ys.map D.cells).flatten.map .d)), nx := S.nx + 1 }, ?_, ?_⟩
      · simp only [appendFirst, hsrc]
        rw [if_neg hn, if_pos ⟨hn, hpos, rfl, by rw [List.length_nil]; exact hgrow _ (by simp)⟩]
        simp
      · have hfp : (Asn.row (szOf C.P el) w []).fp = [] := by rcases hw with rfl | rfl <;> rfl
        refine H.setNew hiw hfp rfl ⟨rfl, rfl, rfl, rfl, hpos, fun z hz => ⟨hysz z hz, hfy z hz⟩, _, .refl _, by simp [AL.get_set]⟩ (fun id hl => ?_) (fun id hid => by simp only [AL.get_set]; rw [if_neg (by omega)]) (fun id hid => rfl) (Nat.le_succ _)
        show id < S.nx + 1
        unfold live cur at hl
        simp only [AL.get_set] at hl
        by_cases hq : S.nx = id
        · omega
        · rw [if_neg hq] at hl
          have := H.wf id hl
          omega
  have hg := H.at hi
  simp only [oper, hm, builtinAV, List.getElem?_toArray, List.getElem?_cons_zero, List.getElem?_cons_succ, hu, if_true, he]
  simp only [Asn.ok] at hg
  split at hg
  · subst hg
    obtain ⟨v', S', h1, h2⟩ := first _ (.inl rfl) hi rfl
    exact ⟨v', S', by simp only [hnr, cond_true, h1, Option.map_some], h2⟩
  · subst hg
    obtain ⟨v', S', h1, h2⟩ := first _ (.inr rfl) hi rfl
    exact ⟨v', S', by simp only [hnr, cond_true, h1, Option.map_some], h2⟩
  · rename_i id g off len lim sz'
    obtain ⟨rfl, rfl, rfl, rfl, _, hsz, cs, hcs, hid⟩ := hg
    have hlen : cs.length = xs.length * szOf C.P el := by
      have := hcs.len
      rw [List.length_map, flat_len (fun x hx => (hsz x hx).1)] at this; exact this.symm
    by_cases hn : ys.length = 0
    · have : ys = [] := List.eq_nil_of_length_eq_zero hn
      subst this
      refine ⟨.msl id g 0 xs.length xs.length (szOf C.P el), S, ?_, ?_⟩
      rotate_left 1
      · rw [List.append_nil, hsame _ hi]; exact H
      · simp only [appendRow, hsrc, St.look, hid, Nat.beq_refl, cond_true]
        rw [if_pos ⟨trivial, hpos, by omega⟩]
        simp
    · refine ⟨.msl id (g + 1) 0 (xs.length + ys.length) (xs.length + ys.length) (szOf C.P el), { S with H := S.H.set id (.cells (g + 1) (cs.take (xs.length * szOf C.P el) ++ (ys.map D.cells).flatten.map .d)) }, ?_, ?_⟩
      · have hm' : 0 < ys.length * szOf C.P el := Nat.mul_pos (by omega) hpos
        simp only [appendRow, hsrc, St.look, hid, Nat.beq_refl, cond_true]
        rw [if_pos ⟨trivial, hpos, by omega⟩, if_neg hn, if_neg (by omega), if_pos ⟨trivial, hgrow _ rfl⟩]
        rfl
      · refine H.set hi rfl ⟨rfl, by simp, by simp, rfl, hpos, fun z hz => ?_, cs.take (xs.length * szOf C.P el) ++ (ys.map D.cells).flatten.map .d, ?_, by simp only [AL.get_set, if_true]⟩ (fun j hl => ?_) (fun j hj => ?_) (fun j hj => rfl) rfl
        · rcases List.mem_append.1 hz with hz | hz
          · exact hsz z hz
          · exact ⟨hysz z hz, hfy z hz⟩
        · rw [List.map_append, List.flatten_append, List.map_append, ← hlen, List.take_of_length_le (Nat.le_refl _)]
          exact hcs.append (.refl _)
        · refine H.wf j ?_
          unfold live cur at hl ⊢
          simp only [AL.get_set] at hl
          by_cases hij : id = j
          · subst hij; rw [hid]; simp
          · rw [if_neg hij] at hl; exact hl
        · simp only [Asn.fp, List.mem_singleton] at hj
          simp only [AL.get_set]
          rw [if_neg (fun q => hj q.symm)]
  · exact hg.elim

theorem Has.nilR {B S : St} {l : List Asn} (H : Has B S l) (sz : Nat) : Has B S (.row sz (.d .nils) [] :: l) := H.pureG rfl rfl
theorem Has.tightR {B S : St} {l : List Asn} (H : Has B S l) (sz : Nat) : Has B S (.row sz (.d (.sl [] true)) [] :: l) := H.pureG rfl rfl

/-- What 'make' comes to, where it goes. -/
def mkRow {α : Type} (sz nb : Nat) (n : Int) (z : α) : Option (List α) := if 0 ≤ n ∧ n.toNat * sz ≤ 16777216 ∧ (nb : Int) * n ≤ 281474976710656 ∧ n ≤ 16777216 then some (List.replicate n.toNat z) else none

theorem rep_less {a b : List AV} (h : LessL a b) : ∀ n, LessL (List.replicate n a).flatten (List.replicate n b).flatten
  | 0 => .nil
  | n + 1 => by rw [List.replicate_succ, List.replicate_succ, List.flatten_cons, List.flatten_cons]; exact h.append (rep_less h n)
theorem map_rep {α β : Type} (f : α → β) (l : List α) : ∀ n, (List.replicate n l).flatten.map f = (List.replicate n (l.map f)).flatten
  | 0 => rfl
  | n + 1 => by rw [List.replicate_succ, List.replicate_succ, List.flatten_cons, List.flatten_cons, List.map_append, map_rep f l n]

theorem oper_rowMake {α : Type} {enc : α → D} {el nb : Nat} {n : Int} {z : α} {z0 : D} {r : List α} {k k' : IntKind} (H : Has B S l) (hx : ρ x = some (.d (.int k n))) (hy : ρ y = some (.d (.int k' n))) (he : elemSl C.P t = some el) (hz : zeroOf C.P el = some z0) (hnb : bytesOf C.P el = nb) (hlen : z0.cells.length = szOf C.P el) (hpos : Nat.blt 0 (szOf C.P el) = true) (hr : C.rowT t = true)
    (hless : LessL ((enc z).cells.map .d) (z0.cells.map .d)) (hf : flatC (enc z).cells = true) (h : mkRow (szOf C.P el) nb n z = some r) :
    ∃ v S', oper C ρ S (.makeSlice t x y) = some (.val v S') ∧ Has B S' (.row (szOf C.P el) v (r.map enc) :: l) := by
  have hpos : 0 < szOf C.P el := Nat.le_of_ble_eq_true hpos
  unfold mkRow at h
  split at h
  · rename_i hc
    obtain ⟨c1, c2, c3, c4⟩ := hc
    cases h
    refine ⟨.msl S.nx 0 0 n.toNat n.toNat (szOf C.P el), newBlk S (.cells 0 ((List.replicate n.toNat z0.cells).flatten.map .d)), ?_, H.new (.cells 0 ((List.replicate n.toNat z0.cells).flatten.map .d)) (a := .row (szOf C.P el) (.msl S.nx 0 0 n.toNat n.toNat (szOf C.P el)) ((List.replicate n.toNat z).map enc)) rfl ⟨rfl, by simp, by simp, rfl, hpos, fun w hw => ?_, (List.replicate n.toNat z0.cells).flatten.map .d, ?_, by simp only [newBlk, AL.get_set, if_true]⟩⟩
    · simp only [oper, hx, hy, opMake, he, hz]
      subst hnb
      rw [if_pos ⟨c1, Int.le_refl _, hlen, hpos, c2, c3, c4, hr⟩]
      rfl
    · simp only [List.map_replicate, List.mem_replicate] at hw
      obtain ⟨_, rfl⟩ := hw
      have := hless.len
      simp only [List.length_map] at this
      exact ⟨by rw [this]; exact hlen, hf⟩
    · simp only [List.map_replicate]
      rw [map_rep, map_rep]
      exact rep_less hless _
  · cases h
end

/-! ### What is lent -/
def Lend (R : ObjR) (S : St) (x : AV) (d : D) : Prop := ∀ cx w u, SRel R cx S w → ARel cx S w x u → DRel w (fun _ _ => False) d u
inductive LendL (R : ObjR) (S : St) : List AV → List D → Prop
  | nil : LendL R S [] []
  | cons {x : AV} {d : D} {xs : List AV} {ds : List D} (h : Lend R S x d) (k : LendL R S xs ds) : LendL R S (x :: xs) (d :: ds)
theorem LendL.len {S : St} {xs : List AV} {ds : List D} (h : LendL R S xs ds) : ds.length = xs.length := by
  induction h with
  | nil => rfl
  | cons _ _ ih => simp [ih]
theorem LendL.get {S : St} {xs : List AV} {ds : List D} (h : LendL R S xs ds) : ∀ {i : Nat} {d : D}, ds[i]? = some d → ∃ x, xs[i]? = some x ∧ Lend R S x d := by
  induction h with
  | nil => intro i d h; simp at h
  | cons h k ih =>
    intro i d hd
    cases i with
    | zero => simp at hd; subst hd; exact ⟨_, rfl, h⟩
    | succ i => simpa using ih (by simpa using hd)
theorem DRel.lend {w : World} {fr : Nat → Nat → Prop} {d : D} {u : Value} (h : DRel w fr d u) : DRel w (fun _ _ => False) d u := h.mono (fun b o v h1 h2 => ⟨h2, fun q => q⟩)
theorem Lend.less {S : St} {x : AV} {d : D} (h : Less (.d d) x) : Lend R S x d := fun cx w u h1 h2 => (h _ _ _ _ h2).dd.lend
theorem Lend.row {S : St} {l : List Asn} (H : Has B S l) {i sz : Nat} {v : AV} {xs : List D} (hi : l[i]? = some (.row sz v xs)) : Lend R S v (.sl xs false) := by
  intro cx w u h1 h2
  have hg := H.at hi
  simp only [Asn.ok] at hg
  split at hg
  · subst hg; exact (nilL _ _ _ _ h2).dd.lend
  · subst hg; exact (slL' _ _ _ _ h2).dd.lend
  · obtain ⟨rfl, rfl, rfl, rfl, hpos, hsz, cs, hcs, hid⟩ := hg
    exact row_data h1 hcs hid hpos hsz (fun b o v q1 q2 => ⟨q2, fun q => q⟩) (fun o q => q) h2
  · exact hg.elim
theorem Lend.agg {S : St} {cs : List AV} {ds : List D} (h : LendL R S cs ds) (hf : flatC ds = true) : Lend R S (Ev.mkAgg cs) (.agg ds) := by
  intro cx w u h1 h2
  have core : ∀ (vs : List Value), vs.length = cs.length → (∀ u ∈ vs, u.oneCell' = true) → (∀ (i : Nat) (x : AV) (u : Value), cs[i]? = some x → vs[i]? = some u → ARel cx S w x u) → CRel w (fun _ _ => False) (.agg ds) vs := fun vs hl ho hh => by
    refine .agg ds vs (by rw [hl, h.len]) ho (flatC_all hf) (fun i d u hd hu => ?_)
    obtain ⟨x, hx, hlx⟩ := h.get hd
    have := (hlx cx w u h1 (hh i x u hx hu)).1
    rwa [(oneCell_cells (ho u (List.mem_of_getElem? hu))).1] at this
  unfold Ev.mkAgg at h2
  split at h2
  · rename_i xs hxs
    have hws : cs = xs.map .d := by
      clear h2 core h
      induction cs generalizing xs with
      | nil => simp [allD] at hxs; subst hxs; rfl
      | cons x l ih =>
        cases x <;> simp only [allD] at hxs <;> try (cases hxs)
        obtain ⟨ys, h1, rfl⟩ := Option.map_eq_some_iff.1 hxs
        rw [ih ys h1]; rfl
    have hd := h2.dd
    refine ⟨?_, hd.2⟩
    have h1 := hd.1
    generalize hcs : u.cells.toList = cs at h1 ⊢
    cases h1 with
    | agg _ _ hl ho hn hh =>
      refine core cs (by rw [hws, List.length_map]; exact hl) ho (fun i x u hx hu => ?_)
      rw [hws, List.getElem?_map, Option.map_eq_some_iff] at hx
      obtain ⟨y, hy, rfl⟩ := hx
      have := hh i y u hy hu
      have ho' := ho u (List.mem_of_getElem? hu)
      exact .d _ _ ⟨by rw [(oneCell_cells ho').1]; exact this, by rw [(oneCell_cells ho').2]; exact hn y (List.mem_of_getElem? hy)⟩
  · cases h2 with
    | agg _ vs hl ho hh =>
      refine ⟨?_, rfl⟩
      simp only [Value.cells]
      exact core vs hl ho hh

/-- Words that name no memory. -/
def scalD : D → Bool
  | .bool _ => true
  | .int _ _ => true
  | .str _ => true
  | _ => false
def scalAV : AV → Bool
  | .d x => scalD x
  | .tup l => l.all fun x => match x with | .d x => scalD x | _ => false
  | _ => false
theorem DRel.scal {w w' : World} {fr fr' : Nat → Nat → Prop} {d : D} {u : Value} (hs : scalD d = true) (h : DRel w fr d u) : DRel w' fr' d u := by
  refine ⟨?_, h.2⟩
  have h1 := h.1
  generalize hcs : u.cells.toList = cs at h1 ⊢
  cases h1 <;> first | (cases hs; done) | constructor
theorem ARel.scal {cx cx' : Cx} {S S' : St} {w w' : World} {x : AV} {u : Value} (hs : scalAV x = true) (h : ARel cx S w x u) : ARel cx' S' w' x u := by
  cases h with
  | d x _ h => exact .d _ _ (DRel.scal hs h)
  | tup xs vs hl h =>
    refine .tup xs vs hl (fun i x v hx hv => ?_)
    simp only [scalAV, List.all_eq_true] at hs
    have := hs x (List.mem_of_getElem? hx)
    have hr := h i x v hx hv
    cases hr with
    | d x _ h => exact .d _ _ (DRel.scal this h)
    | _ => cases this
  | _ => cases hs

theorem SpecC.lend (hR : ObjOk R) {f : Nat} {ds : List D} {v : AV} (h : SpecC R P f ds v) (hv : scalAV v = true) {args : List AV} {S : St} (ha : LendL R S args ds) : SpecF R P f args S (fun r => r = (none, v, S)) := by
  have hargs : ArgsC (ds.map .d) ds := ⟨ds, toDs_d ds, .refl ds⟩
  obtain ⟨hf, hs⟩ := h (ds.map .d) pureSt hargs
  refine ⟨hf, fun cx w us hS hl hr => ?_⟩
  let cxL : Cx := { cx with fr := fun _ _ => False }
  have hL : SRel R cxL pureSt w := by
    have hp := pure_rel hS
    exact ⟨hp.wf, hp.dis, fun id g cs hb => by simp [pureSt, AL.get] at hb, fun id es hb => by simp [pureSt, AL.get] at hb, fun id k x hb => by simp [pureSt, AL.get] at hb, fun id en hb => by simp [pureSt, AL.get] at hb, fun id id' b hl => absurd rfl hl, fun b o q => q.elim, hR.stat _ _ _ _ hS.stat (fun b o v q1 q2 => ⟨q2, fun q => q⟩)⟩
  refine (hs cxL w us hL (by rw [hl, List.length_map, ha.len]) (fun i x u hx hu => ?_)).mono (fun e w' he => ?_)
  · rw [List.getElem?_map, Option.map_eq_some_iff] at hx
    obtain ⟨d, hd, rfl⟩ := hx
    obtain ⟨x, hx, hlx⟩ := ha.get hd
    exact .d _ _ (hlx cx w u hS (hr i x u hx hu))
  · obtain ⟨r, rfl, cx1, k1, k2, k3⟩ := he
    obtain ⟨u, rfl, k3⟩ := k3
    have hb : ∀ b, b < w.heap.size → w'.heap[b]? = w.heap[b]? := fun b hb => (k2.other b hb (fun id hl => absurd rfl hl)).1
    have ex : Ext cx S w cx S w' := Ext.old hS k2.size hb k2.os k2.tape k2.output
    exact ⟨_, rfl, cx, SRel.old hR hS k2.size hb ex, ex, u, rfl, k3.scal hv⟩

/-! ### Calls that come to memory of one's own -/
theorem Has.comp {S S' : St} {l l' : List Asn} (H : Has B S l) (K : Has S S' l') (hd : ∀ id b, S'.H.get id = some b → S'.T.get id = none) : Has B S' (l' ++ l) where
  wf := K.wf
  ok := fun a ha => by
    rcases List.mem_append.1 ha with ha | ha
    · exact K.ok a ha
    · have hok := H.ok a ha
      have hl := Asn.lt H.wf hok
      -- what is there stays
      cases a with
      | box id cs => exact K.keeps.H _ _ hok
      | obj id k x => exact K.keeps.H _ _ hok
      | map id m => exact K.keeps.H _ _ hok
      | grow v xs =>
        cases v with
        | tsl ys tok =>
          obtain ⟨h1, h2, h3, h4⟩ := hok
          refine ⟨h1, h2, K.keeps.T _ _ h3, ?_⟩
          cases hb : S'.H.get tok with
          | none => rfl
          | some b => have := hd _ _ hb; rw [K.keeps.T _ _ h3] at this; cases this
        | d x => cases x with
          | sl ys t => cases t <;> exact hok
          | _ => exact hok
        | _ => exact hok
      | row sz v xs =>
        cases v with
        | msl id g off len lim sz' =>
          obtain ⟨h1, h2, h3, h4, h5, h6, cs, h7, h8⟩ := hok
          exact ⟨h1, h2, h3, h4, h5, h6, cs, h7, K.keeps.H _ _ h8⟩
        | d x => cases x with
          | sl ys t => cases ys <;> cases t <;> exact hok
          | _ => exact hok
        | _ => exact hok
  nd := by
    rw [List.map_append, List.flatten_append, List.nodup_append]
    refine ⟨K.nd, H.nd, fun a ha b hb hab => ?_⟩
    subst hab
    obtain ⟨fps, h1, h2⟩ := List.mem_flatten.1 ha
    obtain ⟨x, hx, rfl⟩ := List.mem_map.1 h1
    obtain ⟨fps, h3, h4⟩ := List.mem_flatten.1 hb
    obtain ⟨y, hy, rfl⟩ := List.mem_map.1 h3
    obtain ⟨o1, o2⟩ := K.out x hx a h2
    have hok := H.ok y hy
    cases y with
    | box id cs => simp only [Asn.fp, List.mem_singleton] at h4; subst h4; simp only [Asn.ok] at hok; rw [o1] at hok; cases hok
    | obj id k x => simp only [Asn.fp, List.mem_singleton] at h4; subst h4; simp only [Asn.ok] at hok; rw [o1] at hok; cases hok
    | map id m => simp only [Asn.fp, List.mem_singleton] at h4; subst h4; simp only [Asn.ok] at hok; rw [o1] at hok; cases hok
    | grow v xs =>
      cases v <;> simp only [Asn.fp, List.not_mem_nil, List.mem_singleton] at h4
      subst h4
      have := hok.2.2.1
      rw [o2] at this; cases this
    | row sz v xs =>
      cases v <;> simp only [Asn.fp, List.not_mem_nil, List.mem_singleton] at h4
      subst h4
      obtain ⟨cs, _, h8⟩ := hok.2.2.2.2.2.2
      rw [o1] at h8; cases h8
  bwf := H.bwf
  keeps := H.keeps.trans K.keeps
  out := fun a ha id hid => by
    rcases List.mem_append.1 ha with ha | ha
    · obtain ⟨o1, o2⟩ := K.out a ha id hid
      refine ⟨?_, ?_⟩
      · cases hb : B.H.get id with
        | none => rfl
        | some b => have := H.keeps.H _ _ hb; rw [o1] at this; cases this
      · cases hb : B.T.get id with
        | none => rfl
        | some b => have := H.keeps.T _ _ hb; rw [o2] at this; cases this
    · exact H.out a ha id hid

/-- .. a call: what is answered, told with a word that may say less, and what one has then. -/
def SpecN (R : ObjR) (P : Program) (f : Nat) (ds : List D) (res : AV → List Asn → Prop) : Prop :=
  ∀ args S, S.Wf → ArgsC args ds → SpecF R P f args S (fun o => o.1 = none ∧ ∃ v l, Less v o.2.1 ∧ res v l ∧ Has S o.2.2 l)

theorem SpecF.dis {f : Nat} {args : List AV} {S : St} {Q : Out → Prop} (h : SpecF R P f args S Q) : SpecF R P f args S (fun o => Q o ∧ ∀ id b, o.2.2.H.get id = some b → o.2.2.T.get id = none) :=
  ⟨h.1, fun cx w us h1 h2 h3 => (h.2 cx w us h1 h2 h3).mono fun e w' ⟨r, q, cx', k, k2⟩ => ⟨r, ⟨q, k.dis⟩, cx', k, k2⟩⟩

theorem ArgsC.lessL : ∀ {args : List AV} {ds : List D}, ArgsC args ds → LessL (ds.map .d) args
  | [], ds, ⟨ds', h1, h2⟩ => by simp [toDs] at h1; subst h1; cases h2; exact .nil
  | x :: xs, ds, ⟨ds', h1, h2⟩ => by
    simp only [toDs] at h1
    split at h1
    · rename_i d hd
      obtain ⟨ds2, h3, rfl⟩ := Option.map_eq_some_iff.1 h1
      cases h2 with
      | cons h k => exact .cons (fun cx S w v hr => .d _ _ (h _ _ _ (toD_sound hd hr))) (ArgsC.lessL ⟨ds2, h3, k⟩)
    · cases h1

section
variable {C : Cfg} {nt : Nat}
theorem SpecN.of_wp {f : Nat} {fn : Func} {c : Code} (hf : C.P.funcs[f]? = some fn) (hc : fn.body = some c) (hn : (fn.name == "runtime.NumGoroutine") = false) {ds : List D} (hle : Nat.ble ds.length fn.ntmps = true) {res : AV → List Asn → Prop}
    (h : ∀ S, S.Wf → WpC R C.P fn.ntmps c (enterE 0 (ds.map .d)) S (endQ C fn (fun o => o.1 = none ∧ ∃ v l, Less v o.2.1 ∧ res v l ∧ Has S o.2.2 l))) : SpecN R C.P f ds res := fun args S hw ha =>
  (SpecF.of_wp hf hc hn (by simpa using Nat.le_of_ble_eq_true hle) (h S hw)).argsL ha.lessL

section steps
variable {ops : Array Oper} {rest : List Oper} {e : Env} {S S' : St} {Q : Stp → Prop} {l l' : List Asn} {t ty : Nat} {p : String} {af : Array Edge} {g : Option (Nat × Bool)} {x y : Operand} {v : AV}
/-- A call that comes to memory of one's own. -/
theorem wpO.retN {op : Op} {f : Nat} {args : List AV} {ds : List D} {res : AV → List Asn → Prop} (H : Has B S l) (hw : wantedE ops e { dst := some t, op := op, type := ty, pos := p, after := af, guard := g } = some true) (ho : oper C (evalO e) S op = some (.call f args)) (hs : SpecN R C.P f ds res) (ha : ArgsC args ds) (ht : Nat.blt t nt = true)
    (k : ∀ v S' l', res v l' → Has B S' (l' ++ l) → wpO R C nt ops rest ((t, v) :: e) S' Q) :
    wpO R C nt ops ({ dst := some t, op := op, type := ty, pos := p, after := af, guard := g } :: rest) e S Q :=
  wpO.one hw (.inr (.inr (.inl ⟨f, args, ho, (hs args S H.wf ha).dis.mono fun r hr => by
    obtain ⟨p, w, S'⟩ := r
    obtain ⟨⟨h1, v, l', h2, h3, h4⟩, hd⟩ := hr
    simp only at h1 h2 h3 h4 hd
    subst h1
    exact ⟨_, by simp only [Env.put, ht, cond_true], wpO.weak (WeakE.top h2) (k v S' l' h3 (H.comp h4 hd))⟩⟩)))
theorem wpO.rowIdx {α : Type} {enc : α → D} {xs : List α} {i sz tt : Nat} {n : Int} {k : IntKind} {z : α} {el : Nat} (H : Has B S l) (hw : wantedE ops e { dst := some t, op := .indexAddr tt x y, type := ty, pos := p, after := af, guard := g } = some true) (hi : l[i]? = some (.row sz v (xs.map enc))) (hx : evalO e x = some v) (hy : evalO e y = some (.d (.int k n)))
    (h : idx xs n = some z) (he : elemSl C.P tt = some el) (ha : (aggO C.P el).isSome = true) (hz : (enc z).cells.length = szOf C.P el) (ht : Nat.blt t nt = true)
    (k : ∀ p, RowAt v p n.toNat 0 → wpO R C nt ops rest ((t, p) :: e) S Q) :
    wpO R C nt ops ({ dst := some t, op := .indexAddr tt x y, type := ty, pos := p, after := af, guard := g } :: rest) e S Q := by
  obtain ⟨p, h1, h2⟩ := oper_rowIdx (C := C) (ρ := evalO e) H hi hx hy h he ha hz
  exact wpO.val hw h1 ht (k p h2)
theorem wpO.rowLoad {xs : List D} {i n off sz tt : Nat} {d r : D} {q : AV} (H : Has B S l) (hw : wantedE ops e { dst := some t, op := .load tt x, type := ty, pos := p, after := af, guard := g } = some true) (hi : l[i]? = some (.row sz v xs)) (hp : RowAt v q n off) (hd : xs[n]? = some d) (h : evalO e x = some q) (hr : partD C.P tt d.cells off = some r) (ht : Nat.blt t nt = true)
    (k : wpO R C nt ops rest ((t, .d r) :: e) S Q) :
    wpO R C nt ops ({ dst := some t, op := .load tt x, type := ty, pos := p, after := af, guard := g } :: rest) e S Q := by
  obtain ⟨w, h1, h2⟩ := oper_rowLoad (C := C) (ρ := evalO e) H hi hp hd h hr
  exact wpO.val hw h1 ht (wpO.less h2 k)
theorem wpO.rowStore {xs : List D} {i n off sz tt : Nat} {d d' : D} {q vy : AV} {cv : List D} (H : Has B S l) (hw : wantedE ops e { dst := none, op := .store tt x y, type := ty, pos := p, after := af, guard := g } = some true) (hi : l[i]? = some (.row sz v xs)) (hp : RowAt v q n off) (hd : xs[n]? = some d) (h : evalO e x = some q) (hy : evalO e y = some vy)
    (hcv : LessL (cv.map .d) vy.cells) (hn : cv.length = szOf C.P tt) (hpl : vy.plain = true) (hag : (aggO C.P tt).isSome = true) (hb : Nat.ble (off + cv.length) d.cells.length = true) (hs : setAt d.cells off cv = d'.cells) (hf : flatC d'.cells = true)
    (hl : l.set i (.row sz v (xs.set n d')) = l') (k : ∀ S', Has B S' l' → wpO R C nt ops rest e S' Q) :
    wpO R C nt ops ({ dst := none, op := .store tt x y, type := ty, pos := p, after := af, guard := g } :: rest) e S Q := by
  subst hl
  obtain ⟨S', h1, h2⟩ := oper_rowStore (C := C) (ρ := evalO e) H hi hp hd h hy hcv hn hpl hag hb hs hf
  exact wpO.skip hw h1 (k S' h2)
theorem wpO.rowAppend {i u t1 : Nat} {vy : AV} {xs ys zs : List D} {el nb sz : Nat} (H : Has B S l) (hw : wantedE ops e { dst := some t, op := .call { callee := .builtin .append, args := #[x, y], argTypes := #[t1, u] }, type := ty, pos := p, after := af, guard := g } = some true)
    (hx : evalO e x = some v) (hy : evalO e y = some vy) (hi : l[i]? = some (.row sz v xs)) (hsz : szOf C.P el = sz) (hd : dataOf vy = some ys) (hnr : C.rowT t1 = true) (hu : okSrc C u = true) (he : elemSl C.P t1 = some el)
    (hb : (xs.length + ys.length) * nb ≤ bound) (hnb : bytesOf C.P el = nb) (h0 : (Nat.blt 0 nb && Nat.ble nb 65536) = true) (hsy : sizes (szOf C.P el) ys = true) (hfy : ∀ z ∈ ys, flatC z.cells = true) (hpos : Nat.blt 0 sz = true) (hz : zeroOk C el = true) (ht : Nat.blt t nt = true) (hzs : xs ++ ys = zs)
    (k : ∀ v' S', Has B S' (l.set i (.row sz v' zs)) → wpO R C nt ops rest ((t, v') :: e) S' Q) :
    wpO R C nt ops ({ dst := some t, op := .call { callee := .builtin .append, args := #[x, y], argTypes := #[t1, u] }, type := ty, pos := p, after := af, guard := g } :: rest) e S Q := by
  subst hzs
  subst hsz
  obtain ⟨v', S', h1, h2⟩ := oper_rowAppend (C := C) (ρ := evalO e) H hx hy hi hd hnr hu he hb hnb h0 hsy hfy hpos hz
  exact wpO.val hw h1 ht (k v' S' h2)
theorem wpO.rowMake {α : Type} {enc : α → D} {el nb sz tt : Nat} {n : Int} {z : α} {z0 : D} {r : List α} {k k' : IntKind} (H : Has B S l) (hw : wantedE ops e { dst := some t, op := .makeSlice tt x y, type := ty, pos := p, after := af, guard := g } = some true) (hx : evalO e x = some (.d (.int k n))) (hy : evalO e y = some (.d (.int k' n))) (he : elemSl C.P tt = some el) (hz : zeroOf C.P el = some z0) (hnb : bytesOf C.P el = nb) (hlen : z0.cells.length = sz) (hsz : szOf C.P el = sz) (hpos : Nat.blt 0 sz = true) (hr : C.rowT tt = true)
    (hless : LessL ((enc z).cells.map .d) (z0.cells.map .d)) (hf : flatC (enc z).cells = true) (h : mkRow sz nb n z = some r) (ht : Nat.blt t nt = true)
    (k : ∀ v S', Has B S' (.row sz v (r.map enc) :: l) → wpO R C nt ops rest ((t, v) :: e) S' Q) :
    wpO R C nt ops ({ dst := some t, op := .makeSlice tt x y, type := ty, pos := p, after := af, guard := g } :: rest) e S Q := by
  subst hsz
  obtain ⟨v', S', h1, h2⟩ := oper_rowMake (C := C) (ρ := evalO e) H hx hy he hz hnb hlen hpos hr hless hf h
  exact wpO.val hw h1 ht (k v' S' h2)
end steps
end
end
end Go.Ev


namespace Go.Ev
noncomputable section
set_option linter.unusedVariables false
set_option linter.unusedSimpArgs false
variable {R : ObjR} {P : Program} {B : St}
def setI {α : Type} (l : List α) (n : Int) (z : α) : List α := l.set n.toNat z
theorem flat_map {α : Type} {enc : α → D} (h : ∀ x, flatC (enc x).cells = true) (l : List α) : ∀ z ∈ l.map enc, flatC z.cells = true := fun z hz => by
  obtain ⟨x, _, rfl⟩ := List.mem_map.1 hz
  exact h x
theorem row_plain {S : St} {sz : Nat} {v : AV} {xs : List D} (h : (Asn.row sz v xs).ok S) : v.plain = true ∧ v.cells = [v] := by
  simp only [Asn.ok] at h
  split at h
  · exact ⟨rfl, rfl⟩
  · exact ⟨rfl, rfl⟩
  · exact ⟨rfl, rfl⟩
  · exact h.elim
theorem mkAgg_plain (cs : List AV) : (Ev.mkAgg cs).plain = true := by
  unfold Ev.mkAgg
  split <;> rfl
theorem mkAgg_cells (cs : List AV) : (Ev.mkAgg cs).cells = cs := by
  unfold Ev.mkAgg
  split
  · rename_i xs hxs
    simp only [AV.cells]
    induction cs generalizing xs with
    | nil => simp [allD] at hxs; subst hxs; rfl
    | cons x l ih =>
      cases x <;> simp only [allD] at hxs <;> try (cases hxs)
      obtain ⟨ys, h1, rfl⟩ := Option.map_eq_some_iff.1 hxs
      rw [List.map_cons, ih ys h1]
  · rfl
theorem plain_row {S : St} {l : List Asn} (H : Has B S l) {i sz : Nat} {v : AV} {xs : List D} (hi : l[i]? = some (.row sz v xs)) : cellsP v = some [v] := by
  obtain ⟨h1, h2⟩ := row_plain (H.at hi)
  simp only [cellsP, h1, h2, cond_true]
/-- Parts that are words of one size. -/
inductive PartsA (sz : Nat) : List AV → List (List AV) → Prop
  | nil : PartsA sz [] []
  | cons {v : AV} {c : List AV} {vs : List AV} {cs : List (List AV)} (h : cellsP v = some c) (hl : c.length = sz) (k : PartsA sz vs cs) : PartsA sz (v :: vs) (c :: cs)
theorem fill_partsA {sz : Nat} {vs : List AV} {cs : List (List AV)} (h : PartsA sz vs cs) : ∀ (done : List (List AV)) (todo : List AV), (∀ d ∈ done, d.length = sz) → todo.length = vs.length * sz →
    fillD cellsP (fun i => some (i * sz, sz)) (done.flatten ++ todo) (enumF done.length vs) = some ((done ++ cs).flatten) := by
  induction h with
  | nil =>
    intro done todo _ ht
    have : todo = [] := List.eq_nil_of_length_eq_zero (by simpa using ht)
    subst this
    simp [enumF, fillD]
  | @cons v d vs ds h hl k ih =>
    intro done todo hd ht
    have hlen : (done.flatten).length = done.length * sz := by
      clear ih ht
      induction done with
      | nil => simp
      | cons x l ihl =>
        simp only [List.flatten_cons, List.length_append, hd x List.mem_cons_self, List.length_cons, ihl (fun d h => hd d (List.mem_cons_of_mem _ h))]
        rw [Nat.add_mul]; omega
    simp only [List.length_cons] at ht
    rw [Nat.add_mul, Nat.one_mul] at ht
    simp only [enumF, fillD, h]
    rw [if_pos ⟨hl, by rw [List.length_append, hlen, hl]; omega⟩]
    have e1 : todo = todo.take sz ++ todo.drop sz := (List.take_append_drop sz todo).symm
    have e2 : setAt (done.flatten ++ todo) (done.length * sz) d = ((done ++ [d])).flatten ++ todo.drop sz := by
      rw [e1, ← List.append_assoc, ← hlen, setAt_mid _ _ _ _ (by rw [hl, List.length_take]; omega)]
      simp
    rw [e2]
    have := ih (done ++ [d]) (todo.drop sz) (fun x hx => by
      rcases List.mem_append.1 hx with hx | hx
      · exact hd x hx
      · rw [List.mem_singleton.1 hx]; exact hl) (by rw [List.length_drop]; omega)
    rw [show (done ++ [d]).length = done.length + 1 by simp] at this
    rw [this]
    simp
inductive LessP {α : Type} (enc : α → D) : List α → List (List AV) → Prop
  | nil : LessP enc [] []
  | cons {x : α} {c : List AV} {xs : List α} {cs : List (List AV)} (h : LessL ((enc x).cells.map .d) c) (k : LessP enc xs cs) : LessP enc (x :: xs) (c :: cs)
theorem LessP.flat {α : Type} {enc : α → D} {xs : List α} {cs : List (List AV)} (h : LessP enc xs cs) : LessL (((xs.map enc).map D.cells).flatten.map .d) cs.flatten ∧ xs.length = cs.length := by
  induction h with
  | nil => exact ⟨.nil, rfl⟩
  | cons h k ih => exact ⟨by simp only [List.map_cons, List.flatten_cons, List.map_append]; exact h.append ih.1, by simp [ih.2]⟩
theorem PartsA.len {sz : Nat} {vs : List AV} {cs : List (List AV)} (h : PartsA sz vs cs) : vs.length = cs.length ∧ ∀ c ∈ cs, c.length = sz := by
  induction h with
  | nil => exact ⟨rfl, by simp⟩
  | cons h hl k ih => exact ⟨by simp [ih.1], fun d hd => by rcases List.mem_cons.1 hd with rfl | hd; exact hl; exact ih.2 d hd⟩
theorem oper_rowBuild {α : Type} {enc : α → D} {C : Cfg} {ρ : Operand → Option AV} {S : St} {l : List Asn} {t n el sz : Nat} {ps : Array (Nat × Operand)} {zd : D} {vs : List AV} {cs : List (List AV)} {xs : List α} (H : Has B S l) (hr : C.rowT t = true) (he : elemSl C.P t = some el) (ha : (aggO C.P el).isSome = true) (hz : zeroOf C.P el = some zd) (hs : szOf C.P el = sz) (hzl : zd.cells.length = sz) (hb : n * sz ≤ 16777216 ∧ 0 < n * sz)
    (hv : PartsA sz vs cs) (hn : vs.length = n) (hl : LessP enc xs cs) (hsz : ∀ x, (enc x).cells.length = sz) (hf : ∀ x, flatC (enc x).cells = true) (hev : evals ρ ps = some (enumF 0 vs)) : ∃ v S', oper C ρ S (.buildSlice t n ps) = some (.val v S') ∧ Has B S' (.row sz v (xs.map enc) :: l) := by
  obtain ⟨k1, k2⟩ := hv.len
  obtain ⟨l1, l2⟩ := hl.flat
  subst hs
  have hn0 : n ≠ 0 := fun q => by subst q; simp at hb
  have hpos : 0 < szOf C.P el := Nat.pos_of_ne_zero (fun q => by rw [q] at hb; simp at hb)
  have f1 := fill_partsA hv [] ((List.replicate n zd.cells).flatten.map .d) (by simp) (by
    rw [List.length_map, List.length_flatten, List.map_replicate, List.sum_replicate_nat, hzl, hn])
  simp only [List.flatten_nil, List.nil_append, List.length_nil] at f1
  have hrow : asRow C t n = true := by
    simp only [asRow, hr, Bool.true_and]
    cases hq : Nat.beq n 0
    · rfl
    · exact absurd (Nat.eq_of_beq_eq_true hq) hn0
  refine ⟨.msl S.nx 0 0 n n (szOf C.P el), newBlk S (.cells 0 cs.flatten), ?_, H.new (.cells 0 cs.flatten) (a := .row (szOf C.P el) (.msl S.nx 0 0 n n (szOf C.P el)) (xs.map enc)) rfl ⟨rfl, by simp; omega, by simp; omega, rfl, hpos, fun w hw => ?_, cs.flatten, l1, by simp only [newBlk, AL.get_set, if_true]⟩⟩
  · simp only [oper, hrow, cond_true, hev, opBuildRow, he, hz]
    rw [if_pos ⟨hzl, hb.2, hb.1, ha⟩]
    simp only [H.no_has, cond_false, f1, Option.map_some]
    rfl
  · obtain ⟨x, _, rfl⟩ := List.mem_map.1 hw
    exact ⟨hsz x, hf x⟩
section
variable {C : Cfg} {nt : Nat} {ops : Array Oper} {rest : List Oper} {e : Env} {S S' : St} {Q : Stp → Prop} {l l' : List Asn} {t ty : Nat} {p : String} {af : Array Edge} {g : Option (Nat × Bool)} {x y : Operand} {v : AV}
theorem wpO.rowStoreT {α : Type} {enc : α → D} {xs : List α} {i off sz tt : Nat} {n : Int} {z z' : α} {q vy : AV} {cv : List D} {cw : List AV} (H : Has B S l) (hw : wantedE ops e { dst := none, op := .store tt x y, type := ty, pos := p, after := af, guard := g } = some true) (hi : l[i]? = some (.row sz v (xs.map enc))) (hp : RowAt v q n.toNat off) (hz : idx xs n = some z) (h : evalO e x = some q) (hy : evalO e y = some vy)
    (hcw : vy.cells = cw) (hcv : LessL (cv.map .d) cw) (hn : szOf C.P tt = cv.length) (hpl : vy.plain = true) (hag : (aggO C.P tt).isSome = true) (hb : Nat.ble (off + cv.length) (enc z).cells.length = true) (hs : setAt (enc z).cells off cv = (enc z').cells) (hf : flatC (enc z').cells = true)
    (k : ∀ S', Has B S' (l.set i (.row sz v ((setI xs n z').map enc))) → wpO R C nt ops rest e S' Q) :
    wpO R C nt ops ({ dst := none, op := .store tt x y, type := ty, pos := p, after := af, guard := g } :: rest) e S Q := by
  subst hcw
  have hd : (xs.map enc)[n.toNat]? = some (enc z) := by rw [List.getElem?_map, (idx_some hz).2]; rfl
  refine wpO.rowStore H hw hi hp hd h hy hcv hn.symm hpl hag hb hs hf rfl (fun S' hS => k S' ?_)
  rw [setI, List.map_set]; exact hS
theorem wpO.rowBuild {α : Type} {enc : α → D} {tt n el sz : Nat} {ps : Array (Nat × Operand)} {zd : D} {vs : List AV} {cs : List (List AV)} {xs : List α} (H : Has B S l) (hw : wantedE ops e { dst := some t, op := .buildSlice tt n ps, type := ty, pos := p, after := af, guard := g } = some true) (hr : C.rowT tt = true) (he : elemSl C.P tt = some el) (ha : (aggO C.P el).isSome = true) (hz : zeroOf C.P el = some zd) (hs : szOf C.P el = sz) (hzl : zd.cells.length = sz) (hb : n * sz ≤ 16777216 ∧ 0 < n * sz)
    (hv : PartsA sz vs cs) (hn : vs.length = n) (hl : LessP enc xs cs) (hsz : ∀ x, (enc x).cells.length = sz) (hf : ∀ x, flatC (enc x).cells = true) (hev : evals (evalO e) ps = some (enumF 0 vs)) (ht : Nat.blt t nt = true)
    (k : ∀ v S', Has B S' (.row sz v (xs.map enc) :: l) → wpO R C nt ops rest ((t, v) :: e) S' Q) :
    wpO R C nt ops ({ dst := some t, op := .buildSlice tt n ps, type := ty, pos := p, after := af, guard := g } :: rest) e S Q := by
  obtain ⟨v', S', h1, h2⟩ := oper_rowBuild (C := C) (ρ := evalO e) H hr he ha hz hs hzl hb hv hn hl hsz hf hev
  exact wpO.val hw h1 ht (k v' S' h2)
end
end
end Go.Ev
namespace Go.Ev
theorem oper_buildSlice0R {C : Cfg} {ρ : Operand → Option AV} {S : St} {t el : Nat} {ag : Bool} (hr : asRow C t 0 = false) (he : elemSl C.P t = some el) (ha : aggO C.P el = some ag) : oper C ρ S (.buildSlice t 0 #[]) = some (.val (.d (.sl [] true)) S) := by
  simp [oper, hr, he, ha, evals, mapO, fillD, chunk]
end Go.Ev
namespace Go.Ev
noncomputable section
set_option linter.unusedVariables false
/-- A place in a row. -/
def rowPtr (v : AV) (n off : Nat) : AV := match v with
  | .msl id g _ _ _ sz => .ptr id g (n * sz + off)
  | _ => .any
theorem rowPtr_at {S : St} {B : St} {l : List Asn} (H : Has B S l) {i sz : Nat} {v : AV} {xs : List D} (hi : l[i]? = some (.row sz v xs)) {n : Nat} {d : D} (hd : xs[n]? = some d) (off : Nat) : RowAt v (rowPtr v n off) n off := by
  obtain ⟨id, g, cs, rfl, _⟩ := row_msl (H.at hi) hd
  exact ⟨id, g, _, _, sz, rfl, rfl⟩
theorem RowAt.eq {v p : AV} {n off : Nat} (h : RowAt v p n off) : p = rowPtr v n off := by
  obtain ⟨id, g, len, lim, sz, rfl, rfl⟩ := h
  rfl
section
variable {R : ObjR} {C : Cfg} {nt : Nat} {B : St} {ops : Array Oper} {rest : List Oper} {e : Env} {S S' : St} {Q : Stp → Prop} {l l' : List Asn} {t ty : Nat} {p : String} {af : Array Edge} {g : Option (Nat × Bool)} {x y : Operand} {v : AV}
theorem wpO.rowIdxP {α : Type} {enc : α → D} {xs : List α} {i sz tt : Nat} {n : Int} {k : IntKind} {z : α} {el : Nat} (H : Has B S l) (hw : wantedE ops e { dst := some t, op := .indexAddr tt x y, type := ty, pos := p, after := af, guard := g } = some true) (hi : l[i]? = some (.row sz v (xs.map enc))) (hx : evalO e x = some v) (hy : evalO e y = some (.d (.int k n)))
    (h : idx xs n = some z) (he : elemSl C.P tt = some el) (ha : (aggO C.P el).isSome = true) (hz : (enc z).cells.length = szOf C.P el) (ht : Nat.blt t nt = true)
    (k : wpO R C nt ops rest ((t, rowPtr v n.toNat 0) :: e) S Q) :
    wpO R C nt ops ({ dst := some t, op := .indexAddr tt x y, type := ty, pos := p, after := af, guard := g } :: rest) e S Q :=
  wpO.rowIdx H hw hi hx hy h he ha hz ht (fun p hp => by rw [hp.eq]; exact k)
theorem wpO.rowLoadP {α : Type} {enc : α → D} {xs : List α} {i off sz tt : Nat} {n : Int} {z : α} {r : D} (H : Has B S l) (hw : wantedE ops e { dst := some t, op := .load tt x, type := ty, pos := p, after := af, guard := g } = some true) (hi : l[i]? = some (.row sz v (xs.map enc))) (hz : idx xs n = some z) (h : evalO e x = some (rowPtr v n.toNat off)) (hr : partD C.P tt (enc z).cells off = some r) (ht : Nat.blt t nt = true)
    (k : wpO R C nt ops rest ((t, .d r) :: e) S Q) :
    wpO R C nt ops ({ dst := some t, op := .load tt x, type := ty, pos := p, after := af, guard := g } :: rest) e S Q := by
  have hd : (xs.map enc)[n.toNat]? = some (enc z) := by rw [List.getElem?_map, (idx_some hz).2]; rfl
  exact wpO.rowLoad H hw hi (rowPtr_at H hi hd off) hd h hr ht k
theorem wpO.rowStoreP {α : Type} {enc : α → D} {xs : List α} {i off sz tt : Nat} {n : Int} {z z' : α} {vy : AV} {cv : List D} {cw : List AV} (H : Has B S l) (hw : wantedE ops e { dst := none, op := .store tt x y, type := ty, pos := p, after := af, guard := g } = some true) (hi : l[i]? = some (.row sz v (xs.map enc))) (hz : idx xs n = some z) (h : evalO e x = some (rowPtr v n.toNat off)) (hy : evalO e y = some vy)
    (hcw : vy.cells = cw) (hcv : LessL (cv.map .d) cw) (hn : szOf C.P tt = cv.length) (hpl : vy.plain = true) (hag : (aggO C.P tt).isSome = true) (hb : Nat.ble (off + cv.length) (enc z).cells.length = true) (hs : setAt (enc z).cells off cv = (enc z').cells) (hf : flatC (enc z').cells = true)
    (k : ∀ S', Has B S' (l.set i (.row sz v ((setI xs n z').map enc))) → wpO R C nt ops rest e S' Q) :
    wpO R C nt ops ({ dst := none, op := .store tt x y, type := ty, pos := p, after := af, guard := g } :: rest) e S Q := by
  have hd : (xs.map enc)[n.toNat]? = some (enc z) := by rw [List.getElem?_map, (idx_some hz).2]; rfl
  exact wpO.rowStoreT H hw hi (rowPtr_at H hi hd off) hz h hy hcw hcv hn hpl hag hb hs hf k
end
end
end Go.Ev


namespace Go.Ev
noncomputable section
set_option linter.unusedVariables false
set_option linter.unusedSimpArgs false
variable {R : ObjR} {C : Cfg} {nt : Nat} {B : St}

/-! ### A region that draws its order: what each operation finds, whenever it comes up -/

/-- Something that stays true whichever comes up next. -/
theorem any_inv {ops : Array Oper} (hr : regOk ops = true) {Q : Exit → Act → World → Prop} (Inv : Array Bool → Act → World → Prop)
    (hstep : ∀ listed a w i o (K : Act → World → Prop), listed.size = ops.size → Closed ops listed → listed.getD i false = false → ops[i]? = some o → (∀ k, k < i → ((Region.before ops).getD i 0).testBit k = true → listed.getD k false = true) → Inv listed a w →
      (∀ a' w', Inv (listed.setIfInBounds i true) a' w' → K a' w') → wpOp C.P ops Q i K a w)
    (hend : ∀ listed a w, (∀ i, i < ops.size → listed.getD i false = true) → Inv listed a w → Q .normal a w) :
    ∀ (fuel : Nat) (listed : Array Bool) {w : World} {a : Act}, listed.size = ops.size → Closed ops listed → ((List.range ops.size).filter fun i => !listed.getD i false).length = fuel → Inv listed a w → wpAny C.P .any ops Q fuel listed a w := by
  intro fuel
  induction fuel with
  | zero =>
    intro listed w a hsz hcl hlen hI
    have hnil := List.eq_nil_of_length_eq_zero hlen
    have hall : ∀ i, i < ops.size → listed.getD i false = true := fun i hi => by
      cases hc : listed.getD i false with
      | true => rfl
      | false =>
        have : i ∈ (List.range ops.size).filter fun i => !listed.getD i false := by
          rw [List.mem_filter]; exact ⟨List.mem_range.2 hi, by rw [hc]; rfl⟩
        rw [hnil] at this; cases this
    refine ⟨?_, hend listed a w hall hI⟩
    cases hq : Region.ready .any ops listed with
    | nil => rfl
    | cons i l =>
      have hi : i ∈ Region.ready .any ops listed := by rw [hq]; simp
      obtain ⟨h1, o, h2, _⟩ := mem_ready.1 hi
      have hlt : i < ops.size := (Array.getElem?_eq_some_iff.1 h2).1
      have := hall i hlt
      have hlt' : i < listed.size := by omega
      simp [hlt'] at h1 this
      rw [h1] at this; cases this
  | succ fuel ih =>
    intro listed w a hsz hcl hlen hI
    refine ⟨fun hnone => ?_, fun i hi => ?_⟩
    · exfalso
      cases hq : (List.range ops.size).filter fun i => !listed.getD i false with
      | nil => rw [hq] at hlen; simp at hlen
      | cons m l =>
        have hm : m ∈ (List.range ops.size).filter fun i => !listed.getD i false := by rw [hq]; simp
        obtain ⟨hm1, hm2⟩ := List.mem_filter.1 hm
        exact some_ready hr hsz (List.mem_range.1 hm1) (by simpa using hm2) hnone
    · obtain ⟨h1, o, h2, h3⟩ := mem_ready.1 hi
      have hlt : i < ops.size := (Array.getElem?_eq_some_iff.1 h2).1
      have hlt' : i < listed.size := by omega
      have h1' : listed.getD i false = false := by simp [hlt'] at h1 ⊢; exact h1
      have hclo := clo_of hr hcl h2 h3
      refine hstep listed a w i o _ hsz hcl h1' h2 hclo hI (fun a' w' hI' => ih _ (by simpa using hsz) (closed_set hcl hclo) ?_ hI')
      have hsp := hlen
      have hmem : i ∈ (List.range ops.size).filter fun i => !listed.getD i false := by
        rw [List.mem_filter]; exact ⟨List.mem_range.2 hlt, by rw [h1']; rfl⟩
      obtain ⟨l1, l2, hq⟩ := List.append_of_mem hmem
      have hnd : ((List.range ops.size).filter fun i => !listed.getD i false).Nodup := List.Pairwise.filter _ List.nodup_range
      rw [hq] at hnd
      have hn2 := (List.nodup_append.1 hnd)
      have hne1 : ∀ k ∈ l1, k ≠ i := fun k hk => hn2.2.2 k hk i (by simp)
      have hne2 : ∀ k ∈ l2, k ≠ i := fun k hk q => by
        subst q
        exact (List.nodup_cons.1 hn2.2.1).1 hk
      rw [rest_eq hlt' hq hne1 hne2]
      rw [hq] at hsp
      simp at hsp ⊢; omega

/-- A slot holds what a word says. -/
def SlotR (cx : Cx) (S : St) (w : World) (a : Act) (t : Nat) (x : AV) : Prop := ∃ v, a.tmps[t]? = some v ∧ ARel cx S w x v

structure EnvOk (nt : Nat) (ops : Array Oper) (e0 : Env) (listed : Array Bool) (ws : List (Option AV)) (cx : Cx) (S : St) (w : World) (a : Act) : Prop where
  size : nt ≤ a.tmps.size
  new : ∀ k o t, ops[k]? = some o → o.dst = some t → listed.getD k false = true → (∀ j o', j ≠ k → ops[j]? = some o' → o'.dst = some t → listed.getD j false = true → j < k) → ∃ x, ws[k]? = some (some x) ∧ SlotR cx S w a t x
  old : ∀ t x, AL.get e0 t = some x → (∀ j o', ops[j]? = some o' → o'.dst = some t → listed.getD j false = false) → SlotR cx S w a t x

/-- Where each slot that is looked at comes from: from an operation, or from ahead of the region. -/
abbrev Src := List (Nat × Option Nat)
def envOf (ws : List (Option AV)) (e0 : Env) : Src → Option Env
  | [] => some []
  | (t, some k) :: l => match ws[k]? with
    | some (some x) => (envOf ws e0 l).map ((t, x) :: ·)
    | _ => none
  | (t, none) :: l => match AL.get e0 t with
    | some x => (envOf ws e0 l).map ((t, x) :: ·)
    | none => none

def dstIs (ops : Array Oper) (k t : Nat) : Bool := match ops[k]? with
  | some o => (match o.dst with | some d => Nat.beq d t | none => false)
  | none => false
theorem dstIs_iff {ops : Array Oper} {k t : Nat} : dstIs ops k t = true ↔ ∃ o, ops[k]? = some o ∧ o.dst = some t := by
  unfold dstIs
  cases h : ops[k]? with
  | none => simp
  | some o =>
    cases hd : o.dst with
    | none => simp [hd]
    | some d => simp [hd]

/-- .. rightly so, for operation i. -/
def srcB (ops : Array Oper) (Bi : Nat) (i : Nat) : Src → Bool
  | [] => true
  | (t, some k) :: l => dstIs ops k t && Nat.testBit Bi k && ((List.range ops.size).all fun j => !(dstIs ops j t) || Nat.beq j k || Nat.blt j k || Nat.beq j i || Nat.testBit ((Region.before ops).getD j 0) i) && srcB ops Bi i l
  | (t, none) :: l => ((List.range ops.size).all fun j => !(dstIs ops j t) || Nat.beq j i || Nat.testBit ((Region.before ops).getD j 0) i) && srcB ops Bi i l
def finB (ops : Array Oper) : Src → Bool
  | [] => true
  | (t, some k) :: l => dstIs ops k t && ((List.range ops.size).all fun j => !(dstIs ops j t) || Nat.beq j k || Nat.blt j k) && finB ops l
  | (t, none) :: l => ((List.range ops.size).all fun j => !(dstIs ops j t)) && finB ops l

theorem envOf_rel {ops : Array Oper} {e0 : Env} {listed : Array Bool} {ws : List (Option AV)} {cx : Cx} {S : St} {w : World} {a : Act} (h : EnvOk nt ops e0 listed ws cx S w a) : ∀ {L : Src} {e : Env}, envOf ws e0 L = some e →
    (∀ t k, (t, some k) ∈ L → ∃ o, ops[k]? = some o ∧ o.dst = some t ∧ listed.getD k false = true ∧ ∀ j o', j ≠ k → ops[j]? = some o' → o'.dst = some t → listed.getD j false = true → j < k) →
    (∀ t, (t, none) ∈ L → ∀ j o', ops[j]? = some o' → o'.dst = some t → listed.getD j false = false) → ERel cx S w nt e a
  | [], e, he, _, _ => by
    simp only [envOf, Option.some.injEq] at he
    subst he
    exact ⟨h.size, fun t x hx => by simp [AL.get] at hx⟩
  | (t, some k) :: L, e, he, hA, hB => by
    simp only [envOf] at he
    split at he
    · rename_i x hx
      obtain ⟨e', he', rfl⟩ := Option.map_eq_some_iff.1 he
      have ih := envOf_rel h he' (fun t k hm => hA t k (List.mem_cons_of_mem _ hm)) (fun t hm => hB t (List.mem_cons_of_mem _ hm))
      refine ⟨h.size, fun u y hy => ?_⟩
      rw [AL.get_cons] at hy
      by_cases hu : t = u
      · subst hu
        rw [if_pos rfl] at hy; cases hy
        obtain ⟨o, h1, h2, h3, h4⟩ := hA t k List.mem_cons_self
        obtain ⟨x', hx', hs⟩ := h.new k o t h1 h2 h3 h4
        rw [hx] at hx'; cases hx'
        exact hs
      · rw [if_neg hu] at hy; exact ih.rel u y hy
    · cases he
  | (t, none) :: L, e, he, hA, hB => by
    simp only [envOf] at he
    split at he
    · rename_i x hx
      obtain ⟨e', he', rfl⟩ := Option.map_eq_some_iff.1 he
      have ih := envOf_rel h he' (fun t k hm => hA t k (List.mem_cons_of_mem _ hm)) (fun t hm => hB t (List.mem_cons_of_mem _ hm))
      refine ⟨h.size, fun u y hy => ?_⟩
      rw [AL.get_cons] at hy
      by_cases hu : t = u
      · subst hu
        rw [if_pos rfl] at hy; cases hy
        exact h.old t x hx (hB t List.mem_cons_self)
      · rw [if_neg hu] at hy; exact ih.rel u y hy
    · cases he

theorem before_lt {ops : Array Oper} (hr : regOk ops = true) {i k : Nat} (hi : i < ops.size) (h : ((Region.before ops).getD i 0).testBit k = true) : k < i := by
  rcases Nat.lt_or_ge k i with q | q
  · exact q
  · have := (regOk_spec hr (show ops[i]? = some ops[i] by simp [hi])).2.2 k q
    rw [this] at h; cases h

theorem srcB_rel {ops : Array Oper} (hr : regOk ops = true) {e0 : Env} {listed : Array Bool} (hcl : Closed ops listed) {ws : List (Option AV)} {cx : Cx} {S : St} {w : World} {a : Act} (h : EnvOk nt ops e0 listed ws cx S w a) {i : Nat} (hi : i < ops.size) (hun : listed.getD i false = false)
    (hclo : ∀ k, k < i → ((Region.before ops).getD i 0).testBit k = true → listed.getD k false = true) {L : Src} {e : Env} (he : envOf ws e0 L = some e) (hb : srcB ops ((Region.before ops).getD i 0) i L = true) : ERel cx S w nt e a := by
  have late : ∀ j, j < ops.size → ((Region.before ops).getD j 0).testBit i = true → listed.getD j false = true → False := fun j hj hb hl => by
    have := hcl j hl i (before_lt hr hj hb) hb
    rw [this] at hun; cases hun
  have key : (∀ t k, (t, some k) ∈ L → ∃ o, ops[k]? = some o ∧ o.dst = some t ∧ listed.getD k false = true ∧ ∀ j o', j ≠ k → ops[j]? = some o' → o'.dst = some t → listed.getD j false = true → j < k) ∧
      (∀ t, (t, none) ∈ L → ∀ j o', ops[j]? = some o' → o'.dst = some t → listed.getD j false = false) := by
    clear he
    induction L with
    | nil => exact ⟨fun t k hm => (by cases hm), fun t hm => (by cases hm)⟩
    | cons p L ih =>
      obtain ⟨t, s⟩ := p
      cases s with
      | some k =>
        simp only [srcB, Bool.and_eq_true] at hb
        obtain ⟨⟨⟨b1, b2⟩, b3⟩, b4⟩ := hb
        obtain ⟨ih1, ih2⟩ := ih b4
        refine ⟨fun u q hm => ?_, fun u hm => ?_⟩
        · rcases List.mem_cons.1 hm with hm | hm
          · cases hm
            obtain ⟨o, h1, h2⟩ := dstIs_iff.1 b1
            refine ⟨o, h1, h2, hclo k (before_lt hr hi b2) b2, fun j o' hjk hj hd hl => ?_⟩
            have hjl : j < ops.size := (Array.getElem?_eq_some_iff.1 hj).1
            have := List.all_eq_true.1 b3 j (List.mem_range.2 hjl)
            simp only [dstIs_iff.2 ⟨o', hj, hd⟩, Bool.not_true, Bool.false_or, Bool.or_eq_true] at this
            rcases this with ((q | q) | q) | q
            · exact absurd (Nat.eq_of_beq_eq_true q) hjk
            · exact Nat.le_of_ble_eq_true q
            · rw [Nat.eq_of_beq_eq_true q, hun] at hl; cases hl
            · exact (late j hjl q hl).elim
          · exact ih1 u q hm
        · rcases List.mem_cons.1 hm with hm | hm
          · cases hm
          · exact ih2 u hm
      | none =>
        simp only [srcB, Bool.and_eq_true] at hb
        obtain ⟨b3, b4⟩ := hb
        obtain ⟨ih1, ih2⟩ := ih b4
        refine ⟨fun u q hm => ?_, fun u hm => ?_⟩
        · rcases List.mem_cons.1 hm with hm | hm
          · cases hm
          · exact ih1 u q hm
        · rcases List.mem_cons.1 hm with hm | hm
          · cases hm
            intro j o' hj hd
            have hjl : j < ops.size := (Array.getElem?_eq_some_iff.1 hj).1
            have := List.all_eq_true.1 b3 j (List.mem_range.2 hjl)
            simp only [dstIs_iff.2 ⟨o', hj, hd⟩, Bool.not_true, Bool.false_or, Bool.or_eq_true] at this
            rcases this with q | q
            · rw [Nat.eq_of_beq_eq_true q]; exact hun
            · cases hl : listed.getD j false with
              | false => rfl
              | true => exact (late j hjl q hl).elim
          · exact ih2 u hm
  exact envOf_rel h he key.1 key.2

theorem finB_rel {ops : Array Oper} {e0 : Env} {listed : Array Bool} (hall : ∀ i, i < ops.size → listed.getD i false = true) {ws : List (Option AV)} {cx : Cx} {S : St} {w : World} {a : Act} (h : EnvOk nt ops e0 listed ws cx S w a) {L : Src} {e : Env} (he : envOf ws e0 L = some e) (hb : finB ops L = true) : ERel cx S w nt e a := by
  have key : (∀ t k, (t, some k) ∈ L → ∃ o, ops[k]? = some o ∧ o.dst = some t ∧ listed.getD k false = true ∧ ∀ j o', j ≠ k → ops[j]? = some o' → o'.dst = some t → listed.getD j false = true → j < k) ∧
      (∀ t, (t, none) ∈ L → ∀ j o', ops[j]? = some o' → o'.dst = some t → listed.getD j false = false) := by
    clear he
    induction L with
    | nil => exact ⟨fun t k hm => (by cases hm), fun t hm => (by cases hm)⟩
    | cons p L ih =>
      obtain ⟨t, s⟩ := p
      cases s with
      | some k =>
        simp only [finB, Bool.and_eq_true] at hb
        obtain ⟨⟨b1, b3⟩, b4⟩ := hb
        obtain ⟨ih1, ih2⟩ := ih b4
        refine ⟨fun u q hm => ?_, fun u hm => ?_⟩
        · rcases List.mem_cons.1 hm with hm | hm
          · cases hm
            obtain ⟨o, h1, h2⟩ := dstIs_iff.1 b1
            refine ⟨o, h1, h2, hall k (Array.getElem?_eq_some_iff.1 h1).1, fun j o' hjk hj hd hl => ?_⟩
            have hjl : j < ops.size := (Array.getElem?_eq_some_iff.1 hj).1
            have := List.all_eq_true.1 b3 j (List.mem_range.2 hjl)
            simp only [dstIs_iff.2 ⟨o', hj, hd⟩, Bool.not_true, Bool.false_or, Bool.or_eq_true] at this
            rcases this with q | q
            · exact absurd (Nat.eq_of_beq_eq_true q) hjk
            · exact Nat.le_of_ble_eq_true q
          · exact ih1 u q hm
        · rcases List.mem_cons.1 hm with hm | hm
          · cases hm
          · exact ih2 u hm
      | none =>
        simp only [finB, Bool.and_eq_true] at hb
        obtain ⟨b3, b4⟩ := hb
        obtain ⟨ih1, ih2⟩ := ih b4
        refine ⟨fun u q hm => ?_, fun u hm => ?_⟩
        · rcases List.mem_cons.1 hm with hm | hm
          · cases hm
          · exact ih1 u q hm
        · rcases List.mem_cons.1 hm with hm | hm
          · cases hm
            intro j o' hj hd
            have hjl : j < ops.size := (Array.getElem?_eq_some_iff.1 hj).1
            have := List.all_eq_true.1 b3 j (List.mem_range.2 hjl)
            simp only [dstIs_iff.2 ⟨o', hj, hd⟩, Bool.not_true, Bool.or_self] at this
            cases this
          · exact ih2 u hm
  exact envOf_rel h he key.1 key.2

/-- What an operation comes to that leaves the memory as it is. -/
inductive OpR (R : ObjR) (C : Cfg) (nt : Nat) (ops : Array Oper) (S : St) (e : Env) (o : Oper) (x : AV) : Prop
  | val {v : AV} (hw : wantedE ops e o = some true) (ho : oper C (evalO e) S o.op = some (.val v S)) (hl : Less x v)
  | call {f : Nat} {args : List AV} {v : AV} (hw : wantedE ops e o = some true) (ho : oper C (evalO e) S o.op = some (.call f args)) (hs : SpecF R C.P f args S (fun r => r = (none, v, S))) (hl : Less x v)
  | no (hw : wantedE ops e o = some false) (hl : Less x (.tup []))
  | step (h : wpO R C nt ops [o] e S (fun r => ∃ e' v, r = .go e' S ∧ (∀ t, o.dst = some t → AL.get e' t = some v ∧ Less x v)))
/-- .. that may change it. -/
inductive OpW (R : ObjR) (C : Cfg) (nt : Nat) (ops : Array Oper) (S : St) (e : Env) (o : Oper) (Q : AV → St → Prop) : Prop
  | val {v : AV} {S' : St} (hw : wantedE ops e o = some true) (ho : oper C (evalO e) S o.op = some (.val v S')) (hq : Q v S')
  | skip {S' : St} (hw : wantedE ops e o = some true) (ho : oper C (evalO e) S o.op = some (.skip S')) (hd : o.dst = none) (hq : Q .any S')
  | call {f : Nat} {args : List AV} (hw : wantedE ops e o = some true) (ho : oper C (evalO e) S o.op = some (.call f args)) (hs : SpecF R C.P f args S (fun r => r.1 = none ∧ Q r.2.1 r.2.2))
  | no (hw : wantedE ops e o = some false) (hq : Q (.tup []) S)
  | step (h : wpO R C nt ops [o] e S (fun r => ∃ e' v S', r = .go e' S' ∧ (∀ t, o.dst = some t → AL.get e' t = some v) ∧ Q v S'))

/-- One operation, and where its word goes. -/
theorem wpStep_put (hR : ObjOkC R C) {ops : Array Oper} {o : Oper} {e : Env} {S : St} {Q : Stp → Prop} (h : wpStep R C nt ops o e S Q) (hno : ∀ r, Q r → ∃ e' S', r = .go e' S') {cx : Cx} {w : World} {a : Act} (hS : SRel R cx S w) (he : ERel cx S w nt e a)
    {K : Act → World → Prop} {Kx : Exit → Act → World → Prop} (hk : ∀ e' S' cx' w' u, Q (.go e' S') → SRel R cx' S' w' → Ext cx S w cx' S' w' → ERel cx' S' w' nt e' (a.put o.dst u) → K (a.put o.dst u) w') (hnx : ∀ t, o.op ≠ .next (.tmp t) false) {i : Nat} (hi : ops[i]? = some o) : wpOp C.P ops Kx i K a w := by
  have hrefl := Ext.refl (cx := cx) w hS.wf
  rcases h with ⟨t, rs, h1, h2, h3⟩ | ⟨e2, hw, h1, h2⟩ | ⟨e2, e', hw, h1, h2, h3⟩
  · exact absurd h1 (hnx t)
  · have he2 := he.weak hw
    unfold wpOp
    rw [hi]
    simp only
    rw [if_pos (wanted_sound he h1)]
    left
    rcases h2 with ⟨v, S', e', h1, h2, h3⟩ | ⟨S', h1, h2, h3⟩ | ⟨f, args, h1, h2⟩ | ⟨t, x, y, ty, xs, b, el, hop, hx, hy, hu, hq⟩
    rotate_left 3
    · have rx := he2.eval x _ hx
      have ry := he2.eval y _ hy
      obtain ⟨a0, n, c, ex, hnil⟩ := DRel_nil rx.dd
      have ey : a.eval y = .slice none 0 0 := by
        have := ry.dd.val rfl
        generalize a.eval y = z at this
        cases this
        rfl
      have hrun : (execOp a.eval o).run C.P w = .ok (.value (.bool a0.isNone)) w := by
        obtain ⟨dst, op, ty', pos, after, guard⟩ := o
        simp only at hop
        subst hop
        exact exV (by
          rw [ex, ey]
          have hg : (eqGuard .eql t x y (.slice a0 n c) (.slice none 0 0)).run C.P w = .ok () w := guard_plain rfl
          simp only [Sem.run_bind, hg, Result.andThen_ok]
          exact Lib.run_eql_slice_nil w t el a0 n c 0 0 hu)
      obtain ⟨e', hp, hk'⟩ := hq a0.isNone (fun h => hnil (by cases a0 with | none => rfl | some a => cases h))
      unfold Oper.wp
      rw [hrun]
      exact hk _ _ cx w _ hk' hS hrefl (he2.put hp (.of_bool _))
    · obtain ⟨cx', w', u, k1, k2, k3, k4⟩ := oper_sound hR hS he2.eval o h1
      unfold Oper.wp
      rw [k1]
      exact hk _ _ cx' w' u h3 k2 k3 ((he2.mono k3).put h2 k4)
    · obtain ⟨cx', w', k1, k2, k3⟩ := oper_sound hR hS he2.eval o h1
      unfold Oper.wp
      rw [k1]
      refine hk _ _ cx' w' undef h3 k2 k3 ?_
      rw [h2]
      exact he2.mono k3
    · obtain ⟨us, k1, k2, k3⟩ := oper_sound hR hS he2.eval o h1
      obtain ⟨⟨fn, f1, f2, f3⟩, hcalls⟩ := h2
      unfold Oper.wp
      rw [k3 fn f1 f2 f3]
      refine (hcalls cx w us hS k1 k2).mono (fun en w' hen => ?_)
      obtain ⟨⟨p, v, S'⟩, hq, cx', m1, m2, m3⟩ := hen
      cases p with
      | none =>
        obtain ⟨u, rfl, m3⟩ := m3
        obtain ⟨e', hp, hq⟩ := hq
        exact hk _ _ cx' _ _ hq m1 m2 ((he2.mono m2).put hp m3)
      | some p =>
        obtain ⟨_, _, hc⟩ := hno _ hq
        cases hc
  · have he2 := he.weak hw
    unfold wpOp
    rw [hi]
    simp only
    rw [if_neg (by rw [wanted_sound he h1]; simp)]
    split at h2
    · rename_i hd
      subst h2
      refine hk _ _ cx w _ h3 hS hrefl ?_
      rw [hd]
      exact he2
    · rename_i t hd
      refine hk _ _ cx w _ h3 hS hrefl ?_
      rw [hd]
      exact he2.put h2 (.tup [] [] rfl (fun i x v hx => by simp at hx))

theorem slot_put {cx : Cx} {S : St} {w : World} {a : Act} {e : Env} {t : Nat} {u : Value} {v : AV} (he : ERel cx S w nt e (a.put (some t) u)) (hv : AL.get e t = some v) : ARel cx S w v u := by
  obtain ⟨u', h1, h2⟩ := he.rel t v hv
  simp only [Act.put] at h1
  have hlt : t < a.tmps.size := by
    have := (Array.getElem?_eq_some_iff.1 h1).1
    simpa using this
  rw [Array.getElem?_setIfInBounds_self_of_lt hlt] at h1
  cases h1
  exact h2

theorem opR_sound (hR : ObjOkC R C) {ops : Array Oper} {o : Oper} {e : Env} {S : St} {x : AV} (h : OpR R C nt ops S e o x) {cx : Cx} {w : World} {a : Act} (hS : SRel R cx S w) (he : ERel cx S w nt e a)
    {K : Act → World → Prop} {Kx : Exit → Act → World → Prop} (hk : ∀ cx' w' u, SRel R cx' S w' → Ext cx S w cx' S w' → (∀ t, o.dst = some t → ARel cx' S w' x u) → K (a.put o.dst u) w') (hnx : ∀ t, o.op ≠ .next (.tmp t) false) {i : Nat} (hi : ops[i]? = some o) : wpOp C.P ops Kx i K a w := by
  have hrefl := Ext.refl (cx := cx) w hS.wf
  unfold wpOp
  rw [hi]
  simp only
  cases h with
  | val hw ho hl =>
    rw [if_pos (wanted_sound he hw)]
    left
    obtain ⟨cx', w', u, k1, k2, k3, k4⟩ := oper_sound hR hS he.eval o ho
    unfold Oper.wp
    rw [k1]
    exact hk cx' w' u k2 k3 (fun _ _ => hl _ _ _ _ k4)
  | call hw ho hs hl =>
    rw [if_pos (wanted_sound he hw)]
    left
    obtain ⟨us, k1, k2, k3⟩ := oper_sound hR hS he.eval o ho
    obtain ⟨⟨fn, f1, f2, f3⟩, hcalls⟩ := hs
    unfold Oper.wp
    rw [k3 fn f1 f2 f3]
    refine (hcalls cx w us hS k1 k2).mono (fun en w' hen => ?_)
    obtain ⟨r, rfl, cx', m1, m2, m3⟩ := hen
    obtain ⟨u, rfl, m3⟩ := m3
    exact hk cx' w' u m1 m2 (fun _ _ => hl _ _ _ _ m3)
  | no hw hl =>
    rw [if_neg (by rw [wanted_sound he hw]; simp)]
    have hv : ARel cx S w x (.tuple #[]) := hl _ _ _ _ (.tup [] [] rfl (fun i x v hx => by simp at hx))
    exact hk cx w _ hS hrefl (fun _ _ => hv)
  | step h =>
    obtain ⟨e2, S2, hw, h⟩ := h
    obtain ⟨cx2, gS, gx, ge⟩ := hw cx w a hS he
    have := wpStep_put hR h (fun r hr => by
      cases r with
      | go e' S' => exact ⟨_, _, rfl⟩
      | stop v S' => obtain ⟨_, _, hc, _⟩ := hr; cases hc) gS ge (K := K) (Kx := Kx) (fun e' S' cx' w' u hq q1 q2 q3 => ?_) hnx hi
    · unfold wpOp at this
      rw [hi] at this
      exact this
    · obtain ⟨e3, hw3, e4, v, hq1, hq2⟩ := hq
      cases hq1
      refine hk cx' w' u q1 (gx.trans q2) (fun t ht => ?_)
      obtain ⟨g1, g2⟩ := hq2 t ht
      rw [ht] at q3
      exact g2 _ _ _ _ (slot_put (q3.weak hw3) g1)

theorem opW_sound (hR : ObjOkC R C) {ops : Array Oper} {o : Oper} {e : Env} {S : St} {Q : AV → St → Prop} (h : OpW R C nt ops S e o Q) {cx : Cx} {w : World} {a : Act} (hS : SRel R cx S w) (he : ERel cx S w nt e a)
    {K : Act → World → Prop} {Kx : Exit → Act → World → Prop} (hk : ∀ v S' cx' w' u, Q v S' → SRel R cx' S' w' → Ext cx S w cx' S' w' → (∀ t, o.dst = some t → ARel cx' S' w' v u) → K (a.put o.dst u) w') (hnx : ∀ t, o.op ≠ .next (.tmp t) false) {i : Nat} (hi : ops[i]? = some o) : wpOp C.P ops Kx i K a w := by
  have hrefl := Ext.refl (cx := cx) w hS.wf
  unfold wpOp
  rw [hi]
  simp only
  cases h with
  | val hw ho hq =>
    rw [if_pos (wanted_sound he hw)]
    left
    obtain ⟨cx', w', u, k1, k2, k3, k4⟩ := oper_sound hR hS he.eval o ho
    unfold Oper.wp
    rw [k1]
    exact hk _ _ cx' w' u hq k2 k3 (fun _ _ => k4)
  | skip hw ho hd hq =>
    rw [if_pos (wanted_sound he hw)]
    left
    obtain ⟨cx', w', k1, k2, k3⟩ := oper_sound hR hS he.eval o ho
    unfold Oper.wp
    rw [k1]
    exact hk _ _ cx' w' undef hq k2 k3 (fun _ _ => .any _)
  | call hw ho hs =>
    rw [if_pos (wanted_sound he hw)]
    left
    obtain ⟨us, k1, k2, k3⟩ := oper_sound hR hS he.eval o ho
    obtain ⟨⟨fn, f1, f2, f3⟩, hcalls⟩ := hs
    unfold Oper.wp
    rw [k3 fn f1 f2 f3]
    refine (hcalls cx w us hS k1 k2).mono (fun en w' hen => ?_)
    obtain ⟨⟨p, v, S'⟩, ⟨hp, hq⟩, cx', m1, m2, m3⟩ := hen
    simp only at hp
    subst hp
    obtain ⟨u, rfl, m3⟩ := m3
    exact hk _ _ cx' w' u hq m1 m2 (fun _ _ => m3)
  | no hw hq =>
    rw [if_neg (by rw [wanted_sound he hw]; simp)]
    exact hk _ _ cx w _ hq hS hrefl (fun _ _ => .tup [] [] rfl (fun i x v hx => by simp at hx))
  | step h =>
    obtain ⟨e2, S2, hw, h⟩ := h
    obtain ⟨cx2, gS, gx, ge⟩ := hw cx w a hS he
    have := wpStep_put hR h (fun r hr => by
      cases r with
      | go e' S' => exact ⟨_, _, rfl⟩
      | stop v S' => obtain ⟨_, _, _, hc, _⟩ := hr; cases hc) gS ge (K := K) (Kx := Kx) (fun e' S' cx' w' u hq q1 q2 q3 => ?_) hnx hi
    · unfold wpOp at this
      rw [hi] at this
      exact this
    · obtain ⟨e3, hw3, e4, v, S4, hq1, hq2, hq3⟩ := hq
      cases hq1
      refine hk v S' cx' w' u hq3 q1 (gx.trans q2) (fun t ht => ?_)
      have g1 := hq2 t ht
      rw [ht] at q3
      exact slot_put (q3.weak hw3) g1

/-! ### .. with what writes in a fixed order -/
/-- Words of operations, told with words that may say less, and more of them. -/
inductive WsLe : List (Option AV) → List (Option AV) → Prop
  | nil : WsLe [] []
  | new {x : Option AV} {a b : List (Option AV)} (k : WsLe a b) : WsLe (x :: a) (none :: b)
  | old {x y : AV} {a b : List (Option AV)} (h : Less y x) (k : WsLe a b) : WsLe (some y :: a) (some x :: b)
theorem WsLe.get {a b : List (Option AV)} (h : WsLe a b) : ∀ {k : Nat} {x : AV}, b[k]? = some (some x) → ∃ y, a[k]? = some (some y) ∧ Less y x := by
  induction h with
  | nil => intro k x h; simp at h
  | new k ih =>
    intro k x h
    cases k with
    | zero => simp at h
    | succ k => simpa using ih (by simpa using h)
  | old h k ih =>
    intro k x hx
    cases k with
    | zero => simp at hx; subst hx; exact ⟨_, rfl, h⟩
    | succ k => simpa using ih (by simpa using hx)
theorem EnvOk.le {ops : Array Oper} {e0 : Env} {listed : Array Bool} {ws ws' : List (Option AV)} {cx : Cx} {S : St} {w : World} {a : Act} (h : EnvOk nt ops e0 listed ws cx S w a) (hl : WsLe ws' ws) : EnvOk nt ops e0 listed ws' cx S w a :=
  ⟨h.size, fun k o t h1 h2 h3 h4 => by
    obtain ⟨x, hx, v, v1, v2⟩ := h.new k o t h1 h2 h3 h4
    obtain ⟨y, hy, hle⟩ := hl.get hx
    exact ⟨y, hy, v, v1, hle _ _ _ _ v2⟩, h.old⟩

/-- An operation has come up. -/
theorem EnvOk.step {ops : Array Oper} (hr : regOk ops = true) (hnt : ∀ (k : Nat) (o : Oper) (t : Nat), ops[k]? = some o → o.dst = some t → t < nt) {e0 : Env} {listed : Array Bool} (hsz : listed.size = ops.size) (hcl : Closed ops listed) {ws ws' : List (Option AV)} {i : Nat} (hle : ∀ k x, k ≠ i → ws[k]? = some (some x) → ∃ y, ws'[k]? = some (some y) ∧ Less y x) {cx cx' : Cx} {S S' : St} {w w' : World} {a : Act} (h : EnvOk nt ops e0 listed ws cx S w a)
    {o : Oper} (hi : ops[i]? = some o) (hun : listed.getD i false = false) (ex : Ext cx S w cx' S' w') {u : Value} (hu : ∀ t, o.dst = some t → ∃ x, ws'[i]? = some (some x) ∧ ARel cx' S' w' x u) : EnvOk nt ops e0 (listed.setIfInBounds i true) ws' cx' S' w' (a.put o.dst u) := by
  have hlt : i < ops.size := (Array.getElem?_eq_some_iff.1 hi).1
  have size : nt ≤ (a.put o.dst u).tmps.size := by
    cases hd : o.dst with
    | none => exact h.size
    | some t => simp only [Act.put, Array.size_setIfInBounds]; exact h.size
  have keep : ∀ t, o.dst ≠ some t → (a.put o.dst u).tmps[t]? = a.tmps[t]? := fun t ht => by
    cases hd : o.dst with
    | none => rfl
    | some d =>
      have : d ≠ t := fun q => ht (by rw [hd, q])
      simp only [Act.put]
      rw [Array.getElem?_setIfInBounds_ne this]
  refine ⟨size, fun k ok t hk hd hlk hlast => ?_, fun t x hx hno => ?_⟩
  · by_cases hki : k = i
    · subst hki
      rw [hi] at hk; cases hk
      obtain ⟨x, hx, hr⟩ := hu t hd
      refine ⟨x, hx, u, ?_, hr⟩
      have htn := hnt k o t hi hd
      have := h.size
      rw [hd]
      simp only [Act.put]
      rw [Array.getElem?_setIfInBounds_self_of_lt (by omega)]
    · have hlk' : listed.getD k false = true := by rwa [getD_set_ne false (fun q => hki q.symm)] at hlk
      have hklt : k < ops.size := (Array.getElem?_eq_some_iff.1 hk).1
      have hdi : o.dst ≠ some t := fun hdi => by
        have hik := hlast i o (fun q => hki q.symm) hi hdi (by have hlt' : i < listed.size := by omega
                                                               simp [hlt'])
        obtain ⟨r1, r2, _⟩ := regOk_spec hr hk
        have := r2 i o hik hi
        split at this
        · rename_i hb
          have := hcl k hlk' i hik hb
          rw [hun] at this; cases this
        · simp only [Oper.apart, hdi, hd, Bool.and_eq_true] at this
          simp at this
      obtain ⟨x, hx, v, v1, v2⟩ := h.new k ok t hk hd hlk' (fun j o' hjk hj hdj hlj => hlast j o' hjk hj hdj (by
        by_cases hji : i = j
        · subst hji; rw [hun] at hlj; cases hlj
        · rw [getD_set_ne false hji]; exact hlj))
      obtain ⟨y, hy, hyx⟩ := hle k x hki hx
      exact ⟨y, hy, v, by rw [keep t hdi]; exact v1, hyx _ _ _ _ (v2.mono ex)⟩
  · have hdi : o.dst ≠ some t := fun hdi => by
      have := hno i o hi hdi
      have hlt' : i < listed.size := by omega
      simp [hlt'] at this
    obtain ⟨v, v1, v2⟩ := h.old t x hx (fun j o' hj hdj => by
      have := hno j o' hj hdj
      by_cases hji : i = j
      · subst hji; exact hun
      · rwa [getD_set_ne false hji] at this)
    exact ⟨v, by rw [keep t hdi]; exact v1, v2.mono ex⟩

/-- What must be seen of the operations that may come up now. -/
inductive RL (R : ObjR) (C : Cfg) (nt : Nat) (ops : Array Oper) (srcs : List Src) (e0 : Env) (ws : List (Option AV)) (S : St) : List Nat → Prop
  | nil : RL R C nt ops srcs e0 ws S []
  | cons {i : Nat} {o : Oper} {x : AV} {e : Env} {os : List Nat} (ho : ops[i]? = some o) (hx : ws[i]? = some (some x)) (he : envOf ws e0 (srcs.getD i []) = some e) (h : OpR R C nt ops S e o x) (k : RL R C nt ops srcs e0 ws S os) : RL R C nt ops srcs e0 ws S (i :: os)
theorem RL.get {ops : Array Oper} {srcs : List Src} {e0 : Env} {ws : List (Option AV)} {S : St} {os : List Nat} (h : RL R C nt ops srcs e0 ws S os) : ∀ {i : Nat}, i ∈ os → ∃ o x e, ops[i]? = some o ∧ ws[i]? = some (some x) ∧ envOf ws e0 (srcs.getD i []) = some e ∧ OpR R C nt ops S e o x := by
  induction h with
  | nil => intro i h; cases h
  | cons ho hx he h k ih =>
    intro i hi
    rcases List.mem_cons.1 hi with rfl | hi
    · exact ⟨_, _, _, ho, hx, he, h⟩
    · exact ih hi

def memB (i : Nat) (l : List Nat) : Bool := l.any fun j => Nat.beq j i
theorem memB_iff {i : Nat} {l : List Nat} : memB i l = true ↔ i ∈ l := by
  simp only [memB, List.any_eq_true]
  constructor
  · rintro ⟨j, hj, hb⟩; rw [← Nat.eq_of_beq_eq_true hb]; exact hj
  · intro h; exact ⟨i, h, Nat.beq_refl i⟩
/-- All that may come up now is seen to. -/
def coverB (ops : Array Oper) (os done : List Nat) (w : Option Nat) (W : List Nat) : Bool :=
  (os.all fun j => !memB j W) &&   (List.range ops.size).all fun i => memB i os || memB i done || (done.any fun d => Nat.testBit ((Region.before ops).getD d 0) i) || (match w with | some w => Nat.beq i w || Nat.testBit ((Region.before ops).getD i 0) w | none => false)

def DrawP (R : ObjR) (C : Cfg) (nt : Nat) (ops : Array Oper) (srcs : List Src) (fin : Src) (e0 : Env) (Q : Env → St → Prop) : List Nat → List Nat → List (Option AV) → St → Prop
  | [], done, ws, S => ∃ os, coverB ops os done none [] = true ∧ RL R C nt ops srcs e0 ws S os ∧ ∃ E, envOf ws e0 fin = some E ∧ Q E S
  | i :: W, done, ws, S => ∃ os, coverB ops os done (some i) (i :: W) = true ∧ RL R C nt ops srcs e0 ws S os ∧ ∃ o e, ops[i]? = some o ∧ envOf ws e0 (srcs.getD i []) = some e ∧
      OpW R C nt ops S e o (fun v S' => ∃ ws', WsLe ws' ws ∧ (∀ t, o.dst = some t → ∃ x, ws'[i]? = some (some x) ∧ Less x v) ∧ DrawP R C nt ops srcs fin e0 Q W (i :: done) ws' S')

/-- What is asked of a region's text alone. -/
def textB (ops : Array Oper) (nt : Nat) (srcs : List Src) (fin : Src) : Bool :=
  regOk ops && finB ops fin && (List.range ops.size).all fun i => srcB ops ((Region.before ops).getD i 0) i (srcs.getD i []) && (match ops[i]? with | some o => (match o.dst with | some t => Nat.blt t nt | none => true) && (match o.op with | .next _ _ => false | _ => true) | none => true)

theorem WpC.drawP (hR : ObjOkC R C) (hm : C.P.follows .mixedOrders = true) {id : Nat} {ops : Array Oper} (srcs : List Src) (fin : Src) (ht : textB ops nt srcs fin = true) (W : List Nat) (hWn : W.Nodup) {e0 : Env} {S : St} (ws : List (Option AV)) {Q : Res → Prop}
    (h : DrawP R C nt ops srcs fin e0 (fun e' S' => Q (.normal, e', S')) W [] ws S) : WpC R C.P nt (.region id ops true) e0 S Q := by
  simp only [textB, Bool.and_eq_true] at ht
  obtain ⟨⟨hr, hfin⟩, hall⟩ := ht
  have hsrc : ∀ i, i < ops.size → srcB ops ((Region.before ops).getD i 0) i (srcs.getD i []) = true := fun i hi => by
    have := List.all_eq_true.1 hall i (List.mem_range.2 hi)
    simp only [Bool.and_eq_true] at this
    exact this.1
  have hnt : ∀ (k : Nat) (o : Oper) (t : Nat), ops[k]? = some o → o.dst = some t → t < nt := fun k o t hk hd => by
    have := List.all_eq_true.1 hall k (List.mem_range.2 (Array.getElem?_eq_some_iff.1 hk).1)
    simp only [Bool.and_eq_true, hk, hd] at this
    exact Nat.le_of_ble_eq_true this.2.1
  have hnx : ∀ (k : Nat) (o : Oper), ops[k]? = some o → ∀ t, o.op ≠ .next (.tmp t) false := fun k o hk t ho => by
    have := List.all_eq_true.1 hall k (List.mem_range.2 (Array.getElem?_eq_some_iff.1 hk).1)
    simp only [Bool.and_eq_true, hk, ho] at this
    cases this.2.2
  intro cx w a Kx hS he hk
  refine wp_region_any hm ?_
  obtain ⟨d1, d2⟩ := drew_sound hR.toObjOk hS
  let Inv : Array Bool → Act → World → Prop := fun listed a' w' => a'.defers = a.defers ∧ ∃ W' done ws' S' cx', DrawP R C nt ops srcs fin e0 (fun e' S' => Q (.normal, e', S')) W' done ws' S' ∧ (∀ i ∈ done, listed.getD i false = true) ∧ (∀ i ∈ W', listed.getD i false = false) ∧ W'.Nodup ∧
    SRel R cx' S' w' ∧ Ext cx S w cx' S' w' ∧ EnvOk nt ops e0 listed ws' cx' S' w' a'
  have repf : ∀ i, (Array.replicate ops.size false).getD i false = false := fun i => rep_false _ _
  refine any_inv hr Inv ?_ ?_ ops.size (Array.replicate ops.size false) (by simp) (fun j hj => by rw [repf] at hj; cases hj) ?_ ?_
  · intro listed a' w' i o K hsz hcl hun hi hclo ⟨hd, W', done, ws', S', cx', hD, hdone, hW', hnd, s1, x1, env⟩ hK
    have hlt : i < ops.size := (Array.getElem?_eq_some_iff.1 hi).1
    -- what needs no writing
    have rstep : ∀ os, RL R C nt ops srcs e0 ws' S' os → i ∈ os → i ∉ W' → wpOp C.P ops Kx i K a' w' := fun os hrl hio hiw => by
      obtain ⟨o2, x, e, h1, h2, h3, h4⟩ := hrl.get hio
      rw [hi] at h1; cases h1
      have hrel := srcB_rel hr hcl env hlt hun hclo h3 (hsrc i hlt)
      refine opR_sound hR h4 s1 hrel (fun cx2 w2 u q1 q2 q3 => hK _ _ ⟨by rw [put_defers]; exact hd, W', done, ws', S', cx2, hD, fun j hj => ?_, fun j hj => ?_, hnd, q1, x1.trans q2, ?_⟩) (hnx i o hi) hi
      · by_cases hij : i = j
        · subst hij; exact getD_set_true (hdone i hj)
        · rw [getD_set_ne false hij]; exact hdone j hj
      · have hij : i ≠ j := fun q => hiw (q ▸ hj)
        rw [getD_set_ne false hij]; exact hW' j hj
      · exact EnvOk.step hr hnt hsz hcl (fun k y _ hy => ⟨y, hy, .refl y⟩) env hi hun q2 (fun t ht => ⟨x, h2, q3 t ht⟩)
    have cov : ∀ os w0, coverB ops os done w0 W' = true → (i ∈ os ∧ i ∉ W') ∨ ∃ w1, w0 = some w1 ∧ (i = w1 ∨ listed.getD w1 false = true) := fun os w0 hc => by
      simp only [coverB, Bool.and_eq_true] at hc
      obtain ⟨c1, c2⟩ := hc
      have := List.all_eq_true.1 c2 i (List.mem_range.2 hlt)
      simp only [Bool.or_eq_true] at this
      rcases this with ((q | q) | q) | q
      · left
        have hio := memB_iff.1 q
        refine ⟨hio, fun hiw => ?_⟩
        have := List.all_eq_true.1 c1 i hio
        rw [memB_iff.2 hiw] at this; cases this
      · have := hdone i (memB_iff.1 q)
        rw [hun] at this; cases this
      · obtain ⟨d, hd1, hd2⟩ := List.any_eq_true.1 q
        have hl := hdone d hd1
        have hdlt : d < ops.size := by
          rcases Nat.lt_or_ge d ops.size with q | q
          · exact q
          · have : listed.getD d false = false := by simp [show listed.size ≤ d by omega]
            rw [hl] at this; cases this
        have := hcl d hl i (before_lt hr hdlt hd2) hd2
        rw [hun] at this; cases this
      · right
        cases w0 with
        | none => cases q
        | some w1 =>
          simp only [Bool.or_eq_true] at q
          refine ⟨w1, rfl, q.imp Nat.eq_of_beq_eq_true (fun q => hclo w1 (before_lt hr hlt q) q)⟩
    cases W' with
    | nil =>
      obtain ⟨os, hc, hrl, _⟩ := _root_.id hD
      rcases cov os none hc with h | ⟨w1, h, _⟩
      · exact rstep os hrl h.1 h.2
      · cases h
    | cons w0 W2 =>
      obtain ⟨os, hc, hrl, o2, e, h1, h2, h3⟩ := _root_.id hD
      rcases cov os (some w0) hc with h | ⟨w1, h, hq⟩
      · exact rstep os hrl h.1 h.2
      · cases h
        rcases hq with rfl | hq
        · rw [hi] at h1; cases h1
          have hrel := srcB_rel hr hcl env hlt hun hclo h2 (hsrc i hlt)
          refine opW_sound hR h3 s1 hrel (fun v S2 cx2 w2 u hqv q1 q2 q3 => ?_) (hnx i o hi) hi
          obtain ⟨ws2, l1, l2, l3⟩ := hqv
          refine hK _ _ ⟨by rw [put_defers]; exact hd, W2, i :: done, ws2, S2, cx2, l3, fun j hj => ?_, fun j hj => ?_, (List.nodup_cons.1 hnd).2, q1, x1.trans q2, ?_⟩
          · by_cases hij : i = j
            · subst hij
              have hlt' : i < listed.size := by omega
              simp [hlt']
            · rw [getD_set_ne false hij]
              rcases List.mem_cons.1 hj with q | q
              · exact absurd q.symm hij
              · exact hdone j q
          · have hij : i ≠ j := fun q => (List.nodup_cons.1 hnd).1 (q ▸ hj)
            rw [getD_set_ne false hij]; exact hW' j (List.mem_cons_of_mem _ hj)
          · exact EnvOk.step hr hnt hsz hcl (fun k y _ hy => l1.get hy) env hi hun q2 (fun t ht => by
              obtain ⟨x, k1, k2⟩ := l2 t ht
              exact ⟨x, k1, k2 _ _ _ _ (q3 t ht)⟩)
        · have := hW' w0 List.mem_cons_self
          rw [hq] at this; cases this
  · intro listed a' w' hall' ⟨hd, W', done, ws', S', cx', hD, hdone, hW', hnd, s1, x1, env⟩
    cases W' with
    | nil =>
      obtain ⟨os, hc, hrl, E, hE, hQ⟩ := hD
      exact hk (.normal, E, S') hQ cx' a' w' s1 x1 (finB_rel hall' env hE hfin) hd
    | cons w0 W2 =>
      obtain ⟨os, hc, hrl, o2, e, h1, h2, h3⟩ := hD
      have := hall' w0 (Array.getElem?_eq_some_iff.1 h1).1
      rw [hW' w0 List.mem_cons_self] at this; cases this
  · have : ((List.range ops.size).filter fun i => !(Array.replicate ops.size false).getD i false) = List.range ops.size := by
      rw [List.filter_eq_self]; intro i hi; rw [repf]; rfl
    rw [this]; simp
  · refine ⟨rfl, W, [], ws, S, cx, h, fun i hi => (by cases hi), fun i hi => repf i, hWn, d1, d2, he.size, fun k o t _ _ hl _ => ?_, fun t x hx _ => ?_⟩
    · rw [repf] at hl; cases hl
    · obtain ⟨v, v1, v2⟩ := he.rel t x hx
      exact ⟨v, v1, v2.mono d2⟩
end
end Go.Ev
namespace Go.Ev
theorem mapE_inj {α : Type} {enc : α → D} (h : ∀ x y, enc x = enc y → x = y) : ∀ {l m : List α}, l.map enc = m.map enc → l = m
  | [], [], _ => rfl
  | [], b :: m, q => by simp at q
  | a :: l, [], q => by simp at q
  | a :: l, b :: m, q => by
    simp only [List.map_cons, List.cons.injEq] at q
    rw [h a b q.1, mapE_inj h q.2]
theorem int_inj {k : IntKind} (a b : Int) (h : D.int k a = D.int k b) : a = b := by injection h
theorem str_inj (a b : Str) (h : D.str a = D.str b) : a = b := by injection h
theorem sl_inj {α : Type} {enc : α → D} (h : ∀ x y, enc x = enc y → x = y) {t : Bool} (l m : List α) (q : D.sl (l.map enc) t = D.sl (m.map enc) t) : l = m := mapE_inj h (by injection q)
end Go.Ev


namespace Go.Ev
noncomputable section
open Go.Shelf Go.RowKit Go.Proofs
set_option linter.unusedVariables false
set_option linter.unusedSimpArgs false

end
end Go.Ev


namespace Go.Ev
noncomputable section
open Go.Shelf Go.RowKit Go.Proofs
set_option linter.unusedVariables false
set_option linter.unusedSimpArgs false

def nullCfg (P : Program) : Cfg := { P := P, good := fun _ => false, rowT := fun _ => false, prim := fun _ _ _ => none, objT := fun _ => none, hasPrim := fun _ => false }

/-- 'append' of cells onto a row of bytes that is owned. -/
theorem app_own {P : Program} {w : World} {t t2 e ty : Nat} {ie : TypeInfo} (hu : P.underlying t = some (.slice e)) (hi : P.info? e = some ie) (hz0 : ie.zero = some (.int .u8 0)) (hz1 : ie.size = 1) (hz2 : ie.bytes = 1)
    (h2 : okSrc (nullCfg P) t2 = true) {v u : Value} {n m : Nat} {xs news : List Value} (hown : w.ownsRow 0 e 1 v n xs)
    (hn : (Builtin.lenOf u).run P w = .ok m w) (hnew : ∀ w', w'.heap = w.heap → (Builtin.firstCells 1 m u).run P w' = .ok news.toArray w') (hl : news.length = m) (h1 : ∀ x ∈ news, x.oneCell' = true) (hb : n + m ≤ bound) :
    ∃ v' w', (Builtin.append_ #[t, t2] ty #[v, u]).run P w = .ok v' w' ∧ w'.ownsRow 0 e 1 v' (n + m) (xs ++ news) ∧ w.grownBy w' v.ownBlock ∧ (v'.ownBlock = v.ownBlock ∨ v'.ownBlock = some w.heap.size) := by
  have hxl : xs.length = n := by have := hown.1; omega
  have hlen : (xs ++ news).length = (n + m) * 1 := by rw [List.length_append, hxl, hl]; omega
  have hmax : maxLen = 9223372036854775807 := by decide
  have grows : ∀ (base : Option Addr) (cap : Nat) (row : Option Nat), n ≤ cap → ¬ n + m ≤ cap → (∀ w', w'.heap = w.heap → (Builtin.firstCells ie.size n (.slice base n cap)).run P w' = .ok xs.toArray w') →
      ∃ v' w', (Builtin.append_ #[t, t2] ty #[.slice base n cap, u]).run P w = .ok v' w' ∧ w'.ownsRow 0 e 1 v' (n + m) (xs ++ news) ∧ w.grownBy w' row ∧ (v'.ownBlock = some w.heap.size) := by
    intro base cap row hnc hroom hold
    obtain ⟨nc, n1, n63, n2⟩ := run_append_grows (C := nullCfg P) (w := w) (ty := ty) (sLen := n) (sCap := cap) (n := m) (base := base) (u := u) hu hi h2 hn hroom (by omega) (by omega) (by rw [hz2, Nat.mul_one]; exact hb) hz0 (hold _ rfl) (by rw [hz1]; exact hnew w.drew rfl)
    refine ⟨_, _, n2, ⟨hlen, .inr ⟨w.heap.size, nc, _, rfl, Nat.zero_le _, heap_alloc_new w.drew _, n1, by omega, ?_, ?_⟩⟩, ⟨rfl, rfl, rfl, by rw [size_alloc]; exact Nat.le_succ _, fun k hk _ => heap_alloc_old w.drew _ hk⟩, rfl⟩
    · simp [zeroCells_size, Value.cells, hxl, hl]; omega
    · have : (n + m) * 1 = (xs ++ news).length := hlen.symm
      rw [this]
      simp only [Array.toList_append, List.append_assoc]
      rw [← List.append_assoc]
      exact List.take_left
  rcases hown.2 with ⟨rfl, rfl⟩ | ⟨g, cap, cur, rfl, _, hg, hnc, hcm, hcs, htake⟩
  · have hxe : xs = [] := List.eq_nil_of_length_eq_zero hxl
    subst hxe
    by_cases hm : m = 0
    · subst hm
      have hne : news = [] := List.eq_nil_of_length_eq_zero hl
      subst hne
      refine ⟨.slice none 0 0, w, ?_, World.ownsRow_nil w 0 e 1, ⟨rfl, rfl, rfl, Nat.le_refl _, fun _ _ _ => rfl⟩, .inl rfl⟩
      exact run_append_fits (C := nullCfg P) (ty := ty) (sLen := 0) (sCap := 0) (n := 0) (base := none) hu hi h2 hn (Nat.le_refl _) (by rw [hz1]; exact hnew w rfl)
    · obtain ⟨v', w', a1, a2, a3, a4⟩ := grows none 0 (Value.ownBlock (.slice none 0 0)) (Nat.le_refl _) (by omega) (fun w' _ => by simp [Builtin.firstCells, loadCells, loadCellsFrom])
      exact ⟨v', w', a1, a2, a3, .inr a4⟩
  · rw [Nat.mul_one] at hcs htake
    by_cases hroom : n + m ≤ cap
    · obtain ⟨w', r1, r2, r3, r4, r5, r6, r7, r8⟩ := storeCells_at (P := P) news w g (n * ie.size) 0 cur e (0, 0) hg h1 (by rw [hz1]; omega) (.inl rfl)
      refine ⟨.slice (some ⟨g, 0, none⟩) (n + m) cap, w', ?_, ⟨hlen, .inr ⟨g, cap, _, rfl, Nat.zero_le _, r8, hroom, hcm, ?_, ?_⟩⟩, ⟨r4, r5, r6, by rw [r2]; exact Nat.le_refl _, fun k _ hk => r3 k (fun q => hk (by rw [q]; rfl))⟩, .inl rfl⟩
      · refine (run_append_fits (C := nullCfg P) (ty := ty) (sLen := n) (sCap := cap) (n := m) (base := some ⟨g, 0, none⟩) hu hi h2 hn hroom (by rw [hz1]; exact hnew w rfl)).trans ?_
        simp only [add_at, Nat.zero_add]
        show ((storeCells ⟨g, n * ie.size, none⟩ news 0).run P w).andThen _ = _
        rw [r1]; rfl
      · simp [setAt_length, hcs]
      · rw [hz1, Nat.mul_one, Nat.mul_one, Nat.add_zero]
        apply List.ext_getElem?
        intro j
        rw [List.getElem?_take, List.getElem?_append, hxl]
        by_cases hj : j < n + m
        · rw [if_pos hj, setAt_get _ _ _ _ (by simp; omega)]
          by_cases hj2 : j < n
          · rw [if_neg (by omega), if_pos hj2, ← htake, List.getElem?_take, if_pos hj2]
          · rw [if_pos (by omega), if_neg hj2]
        · rw [if_neg hj, if_neg (by omega), List.getElem?_eq_none (by omega)]
    · obtain ⟨v', w', a1, a2, a3, a4⟩ := grows (some ⟨g, 0, none⟩) cap (some g) hnc hroom (fun w' hh => by
        have hg' : w'.heap[g]? = some (.cells cur e (0, 0)) := by rw [hh]; exact hg
        have := load_block (P := P) (w := w') (b := g) (o := 0) (n := n * ie.size) hg' (by rw [hz1]; omega)
        rw [hz1, Nat.mul_one, List.drop_zero, htake] at this
        rw [hz1]
        simpa [Builtin.firstCells] using this)
      exact ⟨v', w', a1, a2, a3, .inr a4⟩

theorem wpList_app_own {P : Program} {w : World} {ops : Array Oper} {rest : List Oper} {o : Oper} {a : Act} {Q : Exit → Act → World → Prop} (hgd : o.guard = none) (s x : Operand) (t t2 : TypeId)
    (ho : o.op = .call { callee := .builtin .append, args := #[s, x], argTypes := #[t, t2] })
    (e : TypeId) (ie : TypeInfo) (hu : P.underlying t = some (.slice e)) (hi : P.info? e = some ie) (hz0 : ie.zero = some (.int .u8 0)) (hz1 : ie.size = 1) (hz2 : ie.bytes = 1) (h2 : okSrc (nullCfg P) t2 = true)
    (v : Value) (n : Nat) (xs : List Value) (hs : a.eval s = v) (hown : w.ownsRow 0 e 1 v n xs) (u : Value) (m : Nat) (news : List Value) (hx : a.eval x = u)
    (hn : (Builtin.lenOf u).run P w = .ok m w) (hnew : ∀ w', w'.heap = w.heap → (Builtin.firstCells 1 m u).run P w' = .ok news.toArray w') (hl : news.length = m) (h1 : ∀ y ∈ news, y.oneCell' = true) (hb : n + m ≤ bound)
    (h : ∀ v' w', w'.ownsRow 0 e 1 v' (n + m) (xs ++ news) → w.grownBy w' v.ownBlock → (v'.ownBlock = v.ownBlock ∨ v'.ownBlock = some w.heap.size) → wpList P ops Q rest (a.put o.dst v') w') : wpList P ops Q (o :: rest) a w :=
  wpList_plain hgd fun _ hK => by
    obtain ⟨v', w', hr, a1, a2, a3⟩ := app_own (ty := o.type) hu hi hz0 hz1 hz2 h2 hown hn hnew hl h1 hb
    unfold Oper.wp execOp
    simp only [ho, resolve, invoke, builtin, Sem.run_bind, Sem.run_pure, Result.andThen_ok, List.map_toArray, List.map_cons, List.map_nil, hs, hx, hr]
    exact hK _ _ (h v' w' a1 a2 a3)

/-- What a write leaves of a builder, and of all else. -/
def BldPost (w w' : World) (b : Nat) (v : Value) (xs : List Value) (T e : Nat) : Prop :=
  (w'.os = w.os ∧ w'.tape = w.tape ∧ w'.output = w.output ∧ w.heap.size ≤ w'.heap.size) ∧
  ∃ v', w'.heap[b]? = some (.cells #[.pointer (some ⟨b, 0, none⟩), v'] T (0, 0)) ∧ w'.ownsRow 0 e 1 v' xs.length xs ∧ v'.ownBlock ≠ some b ∧
    (∀ k, k < w.heap.size → k ≠ b → some k ≠ v.ownBlock → w'.heap[k]? = w.heap[k]?) ∧ (∀ g, v'.ownBlock = some g → v.ownBlock = some g ∨ w.heap.size ≤ g)

structure BldAt (T e : Nat) (b : Nat) (p v : Value) (xs : List Value) (w : World) : Prop where
  hp : p = .pointer none ∨ p = .pointer (some ⟨b, 0, none⟩)
  blk : w.heap[b]? = some (.cells #[p, v] T (0, 0))
  own : w.ownsRow 0 e 1 v xs.length xs
  ne : v.ownBlock ≠ some b

/-- Behind copyCheck. -/
theorem bld_check {P : Program} {ρ : Ren} (L : Lays.n240 P ρ) (X : Builder.X72 P ρ) {b : Nat} {p v : Value} {xs : List Value} {w : World} (h : BldAt (ρ.t 72) (ρ.t 5) b p v xs w) :
    Calls P (ρ.f 240) #[.pointer (some ⟨b, 0, none⟩)] w fun e w' => e = .returned (.tuple #[]) ∧ BldAt (ρ.t 72) (ρ.t 5) b (.pointer (some ⟨b, 0, none⟩)) v xs w' ∧
      w'.os = w.os ∧ w'.tape = w.tape ∧ w'.output = w.output ∧ w'.heap.size = w.heap.size ∧ ∀ k, k ≠ b → w'.heap[k]? = w.heap[k]? := by
  obtain ⟨hp, hb, hown, hne⟩ := h
  have hlt : b < w.heap.size := by
    rcases Nat.lt_or_ge b w.heap.size with h' | h'
    · exact h'
    · simp [Array.getElem?_eq_none h'] at hb
  rcases hp with rfl | rfl
  · refine (Any.Builder_copyCheck_fresh L X b w (by rw [Lib.cell_of_heap hb]; rfl) (by simp [World.shape?, hb]) (by simp [World.frozen?, hb])).mono ?_
    rintro e w' ⟨rfl, rfl⟩
    have hoth : ∀ k, k ≠ b → (w.setCell ⟨b, 0, none⟩ (.pointer (some ⟨b, 0, none⟩))).heap[k]? = w.heap[k]? := fun k hk => by simp [World.setCell, Array.getElem?_modify, Ne.symm hk]
    refine ⟨rfl, ⟨.inr rfl, by simp [World.setCell, Array.getElem?_modify, hb], hown.kept (row := some b) ⟨rfl, rfl, rfl, by simp [World.setCell], fun k _ hk => hoth k (fun q => hk (by rw [q]))⟩ (.inr hne), hne⟩, rfl, rfl, rfl, by simp [World.setCell], hoth⟩
  · refine (Any.Builder_copyCheck_used L X b w (by rw [Lib.cell_of_heap hb]; rfl)).mono ?_
    rintro e w' ⟨rfl, rfl⟩
    exact ⟨rfl, ⟨.inr rfl, hb, hown, hne⟩, rfl, rfl, rfl, rfl, fun _ _ => rfl⟩

/-- .. and the store of the new row. -/
theorem bld_put {T e : Nat} {b : Nat} {v v' : Value} {xs xs' : List Value} {w w1 w2 : World} (h1 : BldAt T e b (.pointer (some ⟨b, 0, none⟩)) v xs w1)
    (q1 : w1.os = w.os) (q2 : w1.tape = w.tape) (q3 : w1.output = w.output) (q4 : w1.heap.size = w.heap.size) (q5 : ∀ k, k ≠ b → w1.heap[k]? = w.heap[k]?)
    (hown' : w2.ownsRow 0 e 1 v' xs'.length xs') (hgrow : w1.grownBy w2 v.ownBlock) (hblk : ∀ g, v'.ownBlock = some g → v.ownBlock = some g ∨ w1.heap.size ≤ g) (hTe : T ≠ e) : BldPost w (w2.setCell ⟨b, 1, none⟩ v') b v xs' T e := by
  obtain ⟨hp, hb, hown, hne⟩ := h1
  have hlt : b < w1.heap.size := by
    rcases Nat.lt_or_ge b w1.heap.size with h' | h'
    · exact h'
    · simp [Array.getElem?_eq_none h'] at hb
  have hb2 : w2.heap[b]? = some (.cells #[.pointer (some ⟨b, 0, none⟩), v] T (0, 0)) := by
    rw [hgrow.block b hlt (fun e => hne e.symm)]; exact hb
  have hne' : v'.ownBlock ≠ some b := fun q => by
    rcases hown'.2 with ⟨rfl, _⟩ | ⟨g, cap, cur, rfl, _, hg, _⟩
    · simp [Value.ownBlock] at q
    · simp [Value.ownBlock] at q
      subst q
      rw [hb2] at hg
      simp at hg
      exact hTe hg.2
  have hoth : ∀ k, k ≠ b → (w2.setCell ⟨b, 1, none⟩ v').heap[k]? = w2.heap[k]? := fun k hk => by simp [World.setCell, Array.getElem?_modify, Ne.symm hk]
  refine ⟨⟨hgrow.os.trans q1, hgrow.tape.trans q2, hgrow.output.trans q3, by have := hgrow.size; simp [World.setCell]; omega⟩, v', by simp [World.setCell, Array.getElem?_modify, hb2],
    hown'.kept (row := some b) ⟨rfl, rfl, rfl, by simp [World.setCell], fun k _ hk => hoth k (fun q => hk (by rw [q]))⟩ (.inr hne'), hne', fun k hk hkb hkv => ?_, fun g hg => by rw [← q4]; exact hblk g hg⟩
  rw [hoth k hkb, hgrow.block k (by omega) hkv]
  exact q5 k hkb

set_option maxHeartbeats 2000000 in
set_option maxRecDepth 100000 in
theorem bld_writeByte {P : Program} {ρ : Ren} (L : Lays.n167 P ρ) (X : Builder.Extra P ρ) {b : Nat} {p v : Value} {xs : List Value} {w : World} (h : BldAt (ρ.t 72) (ρ.t 5) b p v xs w) (c : Int) (hlen : xs.length + 1 ≤ bound) :
    Calls P (ρ.f 167) #[.pointer (some ⟨b, 0, none⟩), .int .u8 c] w fun e w' => e = .returned .nilIface ∧ BldPost w w' b v (xs ++ [.int .u8 c]) (ρ.t 72) (ρ.t 5) := by
  obtain ⟨i0, hi, hz0, hz1, hz2⟩ := info_parts X.infoByte
  have mixed := L.mixed
  have t72 := L.t72; have a72 := L.a72; have z72 := L.z72; have v72 := L.v72; have u72 := run_underlying L.t72
  have t70 := L.t70; have a70 := L.a70; have z70 := L.z70; have v70 := L.v70; have u70 := run_underlying L.t70
  have t5 := L.t5; have a5 := L.a5; have z5 := L.z5; have v5 := L.v5; have u5 := run_underlying L.t5
  have t37 := L.t37; have a37 := L.a37; have z37 := L.z37; have v37 := L.v37; have u37 := run_underlying L.t37
  have t9 := L.t9; have a9 := L.a9; have z9 := L.z9; have v9 := L.v9; have u9 := run_underlying L.t9
  have t4 := L.t4; have a4 := L.a4; have z4 := L.z4; have v4 := L.v4; have u4 := run_underlying L.t4
  have t164 := L.t164; have a164 := L.a164; have z164 := L.z164; have v164 := L.v164; have u164 := run_underlying L.t164
  have e240 : ∀ args w, (callFunc (ρ.f 240) args).run P w = .ok (.enter (ρ.f 240) args) w := enters_of L.f240 (by kernel_rfl) rfl
  go_enter L.f167, Body.n167_ntmps ρ
  go_wp2_with (go_at_fn (ρ.f 240); refine (bld_check { L with } X.toX72 h).mono ?_)
  rintro e w1 ⟨rfl, h1, q1, q2, q3, q4, q5⟩
  have hb1 := h1.blk
  have c0 : w1.cell? ⟨b, 0, none⟩ = some (.pointer (some ⟨b, 0, none⟩)) := by rw [Lib.cell_of_heap hb1]; rfl
  have c1 : w1.cell? ⟨b, 1, none⟩ = some v := by rw [Lib.cell_of_heap hb1]; rfl
  have hlt : b < w1.heap.size := by
    rcases Nat.lt_or_ge b w1.heap.size with h' | h'
    · exact h'
    · simp [Array.getElem?_eq_none h'] at hb1
  have hsrc : okSrc (nullCfg P) (ρ.t 37) = true := by simp [okSrc, nullCfg, L.t37]
  go_wp2_with (at_builtin; refine wpList_app_own rfl _ _ (ρ.t 37) (ρ.t 37) rfl (ρ.t 5) i0 L.t37 hi hz0 hz1 hz2 hsrc _ _ _ rfl (h1.own.alloc _) _ 1 [.int .u8 c] rfl rfl ?c1 rfl ?c2 hlen ?_)
  case c1 =>
    intro w' hw'
    show (Builtin.firstCells 1 1 (.slice (some ⟨w.heap.size, 0, none⟩) 1 1)).run P w' = _
    rw [← q4]
    have := load_block (P := P) (w := w') (b := w1.heap.size) (o := 0) (n := 1) (arr := #[.int .u8 c]) (el := ρ.t 5) (fz := (0, 0)) (by rw [hw']; exact heap_alloc_new w1 _) (by simp)
    simpa [Builtin.firstCells] using this
  case c2 => intro u hu; simp at hu; subst hu; rfl
  intro v' w2 hown' hgrow hblk
  have hb2 : w2.heap[b]? = some (.cells #[.pointer (some ⟨b, 0, none⟩), v] (ρ.t 72) (0, 0)) := by
    rw [hgrow.block b (by simp; omega) (fun e => h1.ne e.symm), Lib.alloc_old w1 _ b hlt]
    exact hb1
  have d0 : w2.cell? ⟨b, 0, none⟩ = some (.pointer (some ⟨b, 0, none⟩)) := by rw [Lib.cell_of_heap hb2]; rfl
  have d1 : w2.cell? ⟨b, 1, none⟩ = some v := by rw [Lib.cell_of_heap hb2]; rfl
  have f1 : w2.frozen? ⟨b, 1, none⟩ = false := Lib.frozen_of_heap hb2 1
  obtain ⟨g, cap, rfl⟩ : ∃ g cap, v' = .slice (some ⟨g, 0, none⟩) (xs.length + 1) cap := by
    rcases hown'.2 with ⟨_, h0⟩ | ⟨g, cap, cur, hv, _⟩
    · omega
    · exact ⟨g, cap, hv⟩
  go_wp2
  go_ret
  refine ⟨rfl, bld_put h1 q1 q2 q3 q4 q5 (by simpa using hown') ⟨hgrow.os, hgrow.tape, hgrow.output, by have := hgrow.size; simp at this; omega, fun k hk hkv => by rw [hgrow.block k (by simp; omega) hkv]; exact Lib.alloc_old w1 _ k hk⟩ (fun g hg => ?_) X.neB5⟩
  rcases hblk with hq | hq
  · exact .inl (hq.symm.trans hg)
  · rw [hq] at hg
    simp at hg
    exact .inr (by omega)

set_option maxHeartbeats 2000000 in
set_option maxRecDepth 100000 in
theorem bld_writeString {P : Program} {ρ : Ren} (L : Lays.n166 P ρ) (X : Builder.Extra P ρ) {b : Nat} {p v : Value} {xs : List Value} {w : World} (h : BldAt (ρ.t 72) (ρ.t 5) b p v xs w) (s : ByteArray) (hlen : xs.length + s.size ≤ bound) :
    Calls P (ρ.f 166) #[.pointer (some ⟨b, 0, none⟩), .string s] w fun e w' => e = .returned (.tuple #[.int .i64 s.size, .nilIface]) ∧ BldPost w w' b v (xs ++ Lib.strCells s) (ρ.t 72) (ρ.t 5) := by
  obtain ⟨i0, hi, hz0, hz1, hz2⟩ := info_parts X.infoByte
  have mixed := L.mixed
  have t72 := L.t72; have a72 := L.a72; have z72 := L.z72; have v72 := L.v72; have u72 := run_underlying L.t72
  have t70 := L.t70; have a70 := L.a70; have z70 := L.z70; have v70 := L.v70; have u70 := run_underlying L.t70
  have t37 := L.t37; have a37 := L.a37; have z37 := L.z37; have v37 := L.v37; have u37 := run_underlying L.t37
  have t3 := L.t3; have a3 := L.a3; have z3 := L.z3; have v3 := L.v3; have u3 := run_underlying L.t3
  have t9 := L.t9; have a9 := L.a9; have z9 := L.z9; have v9 := L.v9; have u9 := run_underlying L.t9
  have t4 := L.t4; have a4 := L.a4; have z4 := L.z4; have v4 := L.v4; have u4 := run_underlying L.t4
  have t164 := L.t164; have a164 := L.a164; have z164 := L.z164; have v164 := L.v164; have u164 := run_underlying L.t164
  have t5 := X.t5; have a5 := X.a5; have z5 := X.z5; have v5 := X.v5; have u5 := run_underlying X.t5
  have e240 : ∀ args w, (callFunc (ρ.f 240) args).run P w = .ok (.enter (ρ.f 240) args) w := enters_of L.f240 (by kernel_rfl) rfl
  go_enter L.f166, Body.n166_ntmps ρ
  go_wp2_with (go_at_fn (ρ.f 240); refine (bld_check { L with } X.toX72 h).mono ?_)
  rintro e w1 ⟨rfl, h1, q1, q2, q3, q4, q5⟩
  have hb1 := h1.blk
  have c0 : w1.cell? ⟨b, 0, none⟩ = some (.pointer (some ⟨b, 0, none⟩)) := by rw [Lib.cell_of_heap hb1]; rfl
  have c1 : w1.cell? ⟨b, 1, none⟩ = some v := by rw [Lib.cell_of_heap hb1]; rfl
  have hlt : b < w1.heap.size := by
    rcases Nat.lt_or_ge b w1.heap.size with h' | h'
    · exact h'
    · simp [Array.getElem?_eq_none h'] at hb1
  have hsrc : okSrc (nullCfg P) (ρ.t 9) = true := by simp [okSrc, nullCfg, L.t9]
  have hsl : (Lib.strCells s).length = s.size := Lib.strCells_length s
  go_wp2_with (at_builtin; refine wpList_app_own rfl _ _ (ρ.t 37) (ρ.t 9) rfl (ρ.t 5) i0 L.t37 hi hz0 hz1 hz2 hsrc _ _ _ rfl h1.own _ s.size (Lib.strCells s) rfl rfl ?c1 hsl ?c2 hlen ?_)
  case c1 =>
    intro w' hw'
    show (Builtin.firstCells 1 s.size (.string s)).run P w' = _
    simp only [Builtin.firstCells, Sem.run_pure]
    congr 1
    apply Array.ext'
    simp [Lib.strCells]
  case c2 => intro u hu; simp [Lib.strCells] at hu; obtain ⟨_, _, rfl⟩ := hu; rfl
  intro v' w2 hown' hgrow hblk
  have hb2 : w2.heap[b]? = some (.cells #[.pointer (some ⟨b, 0, none⟩), v] (ρ.t 72) (0, 0)) := by
    rw [hgrow.block b hlt (fun e => h1.ne e.symm)]
    exact hb1
  have d0 : w2.cell? ⟨b, 0, none⟩ = some (.pointer (some ⟨b, 0, none⟩)) := by rw [Lib.cell_of_heap hb2]; rfl
  have d1 : w2.cell? ⟨b, 1, none⟩ = some v := by rw [Lib.cell_of_heap hb2]; rfl
  have f1 : w2.frozen? ⟨b, 1, none⟩ = false := Lib.frozen_of_heap hb2 1
  obtain ⟨ao, n', cap, rfl⟩ : ∃ ao n' cap, v' = .slice ao n' cap := by
    rcases hown'.2 with ⟨hv, _⟩ | ⟨g, cap, cur, hv, _⟩
    · exact ⟨_, _, _, hv⟩
    · exact ⟨_, _, _, hv⟩
  go_wp2
  go_ret2
  refine ⟨rfl, bld_put h1 q1 q2 q3 q4 q5 (by simpa [hsl] using hown') hgrow (fun g hg => ?_) X.neB5⟩
  rcases hblk with hq | hq
  · exact .inl (hq.symm.trans hg)
  · rw [hq] at hg
    simp at hg
    exact .inr (by omega)

/-- All else is as it was. -/
def Kept (w w' : World) (b : Nat) (v : Value) : Prop :=
  w'.os = w.os ∧ w'.tape = w.tape ∧ w'.output = w.output ∧ w.heap.size ≤ w'.heap.size ∧ ∀ k, k < w.heap.size → k ≠ b → some k ≠ v.ownBlock → w'.heap[k]? = w.heap[k]?

theorem Kept.same {w w' : World} (b : Nat) (v : Value) (h1 : w'.os = w.os) (h2 : w'.tape = w.tape) (h3 : w'.output = w.output) (h4 : w'.heap = w.heap) : Kept w w' b v :=
  ⟨h1, h2, h3, by rw [h4]; exact Nat.le_refl _, fun k _ _ _ => by rw [h4]⟩

set_option maxHeartbeats 2000000 in
set_option maxRecDepth 100000 in
theorem bld_string_some {P : Program} {ρ : Ren} (L : Lays.n169 P ρ) (X : Builder.Extra P ρ) {b : Nat} {p v : Value} {l : List UInt8} {w : World} (h : BldAt (ρ.t 72) (ρ.t 5) b p v (Lib.byteCells l) w) (h0 : l ≠ []) :
    Calls P (ρ.f 169) #[.pointer (some ⟨b, 0, none⟩)] w fun e w' => e = .returned (.string ⟨l.toArray⟩) ∧ Kept w w' b v := by
  obtain ⟨hp, hbk, hown, hne⟩ := h
  have hl0 : l.length ≠ 0 := by simpa using h0
  rw [Lib.byteCells_length] at hown
  obtain ⟨g, cap, cur, rfl, hg, hnc, hcm, hcs, htake⟩ : ∃ g cap cur, v = .slice (some ⟨g, 0, none⟩) l.length cap ∧ w.heap[g]? = some (.cells cur (ρ.t 5) (0, 0)) ∧ l.length ≤ cap ∧ cap ≤ maxLen ∧ cur.size = cap * 1 ∧ cur.toList.take (l.length * 1) = Lib.byteCells l := by
    rcases hown.2 with ⟨_, hz⟩ | ⟨g, cap, cur, hv, _, r⟩
    · exact absurd hz hl0
    · exact ⟨g, cap, cur, hv, r⟩
  have c1 : w.drew.cell? ⟨b, 1, none⟩ = some (.slice (some ⟨g, 0, none⟩) l.length cap) := by
    have : w.drew.heap[b]? = some (.cells #[p, .slice (some ⟨g, 0, none⟩) l.length cap] (ρ.t 72) (0, 0)) := hbk
    rw [Lib.cell_of_heap this]; rfl
  have hSD : (Builtin.unsafeSliceData_ #[(ρ.t 37)] (ρ.t 127) #[.slice (some ⟨g, 0, none⟩) l.length cap]).run P w.drew = .ok (.pointer (some ⟨g, 0, none⟩)) w.drew :=
    Lib.run_unsafeSliceData_row _ _ _ _ _ _ (by omega)
  have hUS : (Builtin.unsafeString_ #[(ρ.t 127), (ρ.t 3)] (ρ.t 9) #[.pointer (some ⟨g, 0, none⟩), .int .i64 l.length]).run P w.drew = .ok (.string ⟨l.toArray⟩) (w.drew.freeze ⟨g, 0, none⟩ l.length) := by
    refine Lib.run_unsafeString_row w.drew (ρ.t 127) (ρ.t 3) (ρ.t 9) (ρ.t 5) L.t127 X.cellsByte g cur.size (by have hg' : w.drew.heap[g]? = some (.cells cur (ρ.t 5) (0, 0)) := hg; simp [World.shape?, hg']) l h0 (by omega) (by unfold maxLen at hcm; omega) ?_
    intro j x hx
    have := hown.cells (g := g) rfl j (.int .u8 x.toNat) (by simp [Lib.byteCells, hx])
    exact this
  have hfin : Kept w (w.drew.freeze ⟨g, 0, none⟩ l.length) b (.slice (some ⟨g, 0, none⟩) l.length cap) := by
    unfold World.freeze
    rw [if_neg hl0]
    refine ⟨rfl, rfl, rfl, by simp, fun k _ _ hk => ?_⟩
    have hk' : g ≠ k := fun q => hk (by simp [Value.ownBlock, q])
    simp [Array.getElem?_modify, hk']
    rfl
  have mixed := L.mixed
  have t72 := L.t72; have a72 := L.a72; have z72 := L.z72; have v72 := L.v72; have u72 := run_underlying L.t72
  have t70 := L.t70; have a70 := L.a70; have z70 := L.z70; have v70 := L.v70; have u70 := run_underlying L.t70
  have t37 := L.t37; have a37 := L.a37; have z37 := L.z37; have v37 := L.v37; have u37 := run_underlying L.t37
  have t127 := L.t127; have a127 := L.a127; have z127 := L.z127; have v127 := L.v127; have u127 := run_underlying L.t127
  have t3 := L.t3; have a3 := L.a3; have z3 := L.z3; have v3 := L.v3; have u3 := run_underlying L.t3
  have t9 := L.t9; have a9 := L.a9; have z9 := L.z9; have v9 := L.v9; have u9 := run_underlying L.t9
  have t5 := X.t5; have a5 := X.a5; have z5 := X.z5; have v5 := X.v5; have u5 := run_underlying X.t5
  go_enter L.f169, Body.n169_ntmps ρ
  go_wp2
  go_region_o
  all_goals (go_wp2; go_ret; exact ⟨rfl, hfin⟩)

set_option maxHeartbeats 2000000 in
set_option maxRecDepth 100000 in
theorem bld_string_nil {P : Program} {ρ : Ren} (L : Lays.n169 P ρ) (X : Builder.Extra P ρ) {b : Nat} {p : Value} {w : World} (hbk : w.heap[b]? = some (.cells #[p, .slice none 0 0] (ρ.t 72) (0, 0))) :
    Calls P (ρ.f 169) #[.pointer (some ⟨b, 0, none⟩)] w fun e w' => e = .returned (.string ⟨#[]⟩) ∧ Kept w w' b (.slice none 0 0) := by
  have hUS := Any.unsafeString_none L X
  have c1 : w.drew.cell? ⟨b, 1, none⟩ = some (.slice none 0 0) := by
    have : w.drew.heap[b]? = some (.cells #[p, .slice none 0 0] (ρ.t 72) (0, 0)) := hbk
    rw [Lib.cell_of_heap this]; rfl
  have hSD : (Builtin.unsafeSliceData_ #[(ρ.t 37)] (ρ.t 127) #[.slice none 0 0]).run P w.drew = .ok (.pointer none) w.drew := rfl
  have mixed := L.mixed
  have t72 := L.t72; have a72 := L.a72; have z72 := L.z72; have v72 := L.v72; have u72 := run_underlying L.t72
  have t70 := L.t70; have a70 := L.a70; have z70 := L.z70; have v70 := L.v70; have u70 := run_underlying L.t70
  have t37 := L.t37; have a37 := L.a37; have z37 := L.z37; have v37 := L.v37; have u37 := run_underlying L.t37
  have t127 := L.t127; have a127 := L.a127; have z127 := L.z127; have v127 := L.v127; have u127 := run_underlying L.t127
  have t3 := L.t3; have a3 := L.a3; have z3 := L.z3; have v3 := L.v3; have u3 := run_underlying L.t3
  have t9 := L.t9; have a9 := L.a9; have z9 := L.z9; have v9 := L.v9; have u9 := run_underlying L.t9
  have t5 := X.t5; have a5 := X.a5; have z5 := X.z5; have v5 := X.v5; have u5 := run_underlying X.t5
  go_enter L.f169, Body.n169_ntmps ρ
  go_wp2
  go_region_o
  all_goals (go_wp2; go_ret; exact ⟨rfl, Kept.same _ _ rfl rfl rfl rfl⟩)

set_option maxHeartbeats 2000000 in
set_option maxRecDepth 100000 in
theorem bld_string_noroom {P : Program} {ρ : Ren} (L : Lays.n169 P ρ) (X : Builder.Extra P ρ) {b g : Nat} {p : Value} {cur : Array Value} {w : World} (hbk : w.heap[b]? = some (.cells #[p, .slice (some ⟨g, 0, none⟩) 0 0] (ρ.t 72) (0, 0))) (hg : w.heap[g]? = some (.cells cur (ρ.t 5) (0, 0))) :
    Calls P (ρ.f 169) #[.pointer (some ⟨b, 0, none⟩)] w fun e w' => e = .returned (.string ⟨#[]⟩) ∧ Kept w w' b (.slice (some ⟨g, 0, none⟩) 0 0) := by
  have hUS := Any.unsafeString_none L X
  have hlt : b < w.heap.size := by
    rcases Nat.lt_or_ge b w.heap.size with h' | h'
    · exact h'
    · simp [Array.getElem?_eq_none h'] at hbk
  have c1 : w.drew.cell? ⟨b, 1, none⟩ = some (.slice (some ⟨g, 0, none⟩) 0 0) := by
    have : w.drew.heap[b]? = some (.cells #[p, .slice (some ⟨g, 0, none⟩) 0 0] (ρ.t 72) (0, 0)) := hbk
    rw [Lib.cell_of_heap this]; rfl
  have hSD : (Builtin.unsafeSliceData_ #[(ρ.t 37)] (ρ.t 127) #[.slice (some ⟨g, 0, none⟩) 0 0]).run P w.drew = .ok (.pointer (some ⟨w.drew.heap.size, 0, none⟩)) (w.drew.alloc (.view ⟨g, 0, none⟩ (ρ.t 5))) :=
    Lib.run_unsafeSliceData_zero w.drew _ _ (ρ.t 5) L.t127 ⟨g, 0, none⟩ 0 ((ρ.t 5), cur.size) (by have hg' : w.drew.heap[g]? = some (.cells cur (ρ.t 5) (0, 0)) := hg; simp [World.shape?, hg'])
  have c2 : (w.drew.alloc (.view ⟨g, 0, none⟩ (ρ.t 5))).cell? ⟨b, 1, none⟩ = some (.slice (some ⟨g, 0, none⟩) 0 0) := by
    have : (w.drew.alloc (.view ⟨g, 0, none⟩ (ρ.t 5))).heap[b]? = _ := (Lib.alloc_old w.drew _ b hlt).trans hbk
    rw [Lib.cell_of_heap this]; rfl
  have c3 : (w.alloc (.view ⟨g, 0, none⟩ (ρ.t 5))).drew.cell? ⟨b, 1, none⟩ = some (.slice (some ⟨g, 0, none⟩) 0 0) := c2
  have c0 : w.cell? ⟨b, 1, none⟩ = some (.slice (some ⟨g, 0, none⟩) 0 0) := c1
  have hfin : Kept w (w.drew.alloc (.view ⟨g, 0, none⟩ (ρ.t 5))) b (.slice (some ⟨g, 0, none⟩) 0 0) :=
    ⟨rfl, rfl, rfl, by rw [size_alloc]; exact Nat.le_succ _, fun k hk _ _ => heap_alloc_old w.drew _ hk⟩
  have mixed := L.mixed
  have t72 := L.t72; have a72 := L.a72; have z72 := L.z72; have v72 := L.v72; have u72 := run_underlying L.t72
  have t70 := L.t70; have a70 := L.a70; have z70 := L.z70; have v70 := L.v70; have u70 := run_underlying L.t70
  have t37 := L.t37; have a37 := L.a37; have z37 := L.z37; have v37 := L.v37; have u37 := run_underlying L.t37
  have t127 := L.t127; have a127 := L.a127; have z127 := L.z127; have v127 := L.v127; have u127 := run_underlying L.t127
  have t3 := L.t3; have a3 := L.a3; have z3 := L.z3; have v3 := L.v3; have u3 := run_underlying L.t3
  have t9 := L.t9; have a9 := L.a9; have z9 := L.z9; have v9 := L.v9; have u9 := run_underlying L.t9
  have t5 := X.t5; have a5 := X.a5; have z5 := X.z5; have v5 := X.v5; have u5 := run_underlying X.t5
  go_enter L.f169, Body.n169_ntmps ρ
  go_wp2
  go_region_o
  all_goals (go_wp2; go_ret; exact ⟨rfl, hfin⟩)

set_option maxHeartbeats 2000000 in
set_option maxRecDepth 100000 in
theorem bld_string_room {P : Program} {ρ : Ren} (L : Lays.n169 P ρ) (X : Builder.Extra P ρ) {b g cap : Nat} {p : Value} {w : World} (hc0 : cap ≠ 0) (hbk : w.heap[b]? = some (.cells #[p, .slice (some ⟨g, 0, none⟩) 0 cap] (ρ.t 72) (0, 0))) :
    Calls P (ρ.f 169) #[.pointer (some ⟨b, 0, none⟩)] w fun e w' => e = .returned (.string ⟨#[]⟩) ∧ Kept w w' b (.slice (some ⟨g, 0, none⟩) 0 cap) := by
  have hUS := Any.unsafeString_none L X
  have c1 : w.drew.cell? ⟨b, 1, none⟩ = some (.slice (some ⟨g, 0, none⟩) 0 cap) := by
    have : w.drew.heap[b]? = some (.cells #[p, .slice (some ⟨g, 0, none⟩) 0 cap] (ρ.t 72) (0, 0)) := hbk
    rw [Lib.cell_of_heap this]; rfl
  have hSD : (Builtin.unsafeSliceData_ #[(ρ.t 37)] (ρ.t 127) #[.slice (some ⟨g, 0, none⟩) 0 cap]).run P w.drew = .ok (.pointer (some ⟨g, 0, none⟩)) w.drew :=
    Lib.run_unsafeSliceData_row _ _ _ _ _ _ hc0
  clear hc0
  have mixed := L.mixed
  have t72 := L.t72; have a72 := L.a72; have z72 := L.z72; have v72 := L.v72; have u72 := run_underlying L.t72
  have t70 := L.t70; have a70 := L.a70; have z70 := L.z70; have v70 := L.v70; have u70 := run_underlying L.t70
  have t37 := L.t37; have a37 := L.a37; have z37 := L.z37; have v37 := L.v37; have u37 := run_underlying L.t37
  have t127 := L.t127; have a127 := L.a127; have z127 := L.z127; have v127 := L.v127; have u127 := run_underlying L.t127
  have t3 := L.t3; have a3 := L.a3; have z3 := L.z3; have v3 := L.v3; have u3 := run_underlying L.t3
  have t9 := L.t9; have a9 := L.a9; have z9 := L.z9; have v9 := L.v9; have u9 := run_underlying L.t9
  have t5 := X.t5; have a5 := X.a5; have z5 := X.z5; have v5 := X.v5; have u5 := run_underlying X.t5
  go_enter L.f169, Body.n169_ntmps ρ
  go_wp2
  go_region_o
  all_goals (go_wp2; go_ret; exact ⟨rfl, Kept.same _ _ rfl rfl rfl rfl⟩)

theorem bld_string {P : Program} {ρ : Ren} (L : Lays.n169 P ρ) (X : Builder.Extra P ρ) {b : Nat} {p v : Value} {l : List UInt8} {w : World} (h : BldAt (ρ.t 72) (ρ.t 5) b p v (Lib.byteCells l) w) :
    Calls P (ρ.f 169) #[.pointer (some ⟨b, 0, none⟩)] w fun e w' => e = .returned (.string ⟨l.toArray⟩) ∧ Kept w w' b v := by
  by_cases h0 : l = []
  · subst h0
    obtain ⟨hp, hbk, hown, hne⟩ := h
    rcases hown.2 with ⟨rfl, _⟩ | ⟨g, cap, cur, rfl, _, hg, _⟩
    · exact bld_string_nil L X hbk
    · by_cases hc0 : cap = 0
      · subst hc0
        exact bld_string_noroom L X hbk hg
      · exact bld_string_room L X hc0 hbk
  · exact bld_string_some L X h h0

end
end Go.Ev


namespace Go.Ev
noncomputable section
open Go.Shelf Go.RowKit Go.Proofs
set_option linter.unusedVariables false
set_option linter.unusedSimpArgs false

/-- A strings.Builder and what it holds. -/
def bldRel (T e : Nat) (k : Nat) (x : D) (w : World) (b : Nat) (F : Nat → Prop) : Prop :=
  k = 1 ∧ ∃ l p v, x = .str l ∧ BldAt T e b p v (Lib.byteCells l) w ∧ ∀ c, F c ↔ (c = b ∨ v.ownBlock = some c)

/-- An iterator's block. -/
def itRel (k : Nat) (w : World) (b : Nat) (F : Nat → Prop) : Prop := k = 3 ∧ b < w.heap.size ∧ ∀ c, F c ↔ c = b

/-- Objects: builders, and iterators. -/
def theR (T e : Nat) (G : World → (Nat → Nat → Prop) → Prop) : ObjR := { rel := fun k x w b F => bldRel T e k x w b F ∨ itRel k w b F, G := G }

/-- What is asked of a static fact. -/
def StatOk (G : World → (Nat → Nat → Prop) → Prop) : Prop :=
  ∀ (w w' : World) (fr fr' : Nat → Nat → Prop), G w fr → (∀ (b o : Nat) (v : Value), ¬ fr b o → w.cell? ⟨b, o, none⟩ = some v → w'.cell? ⟨b, o, none⟩ = some v ∧ ¬ fr' b o) → G w' fr'

theorem own_frame {e : Nat} {v : Value} {n : Nat} {xs : List Value} {w w' : World} (h : w.ownsRow 0 e 1 v n xs) (hk : ∀ c, v.ownBlock = some c → w'.heap[c]? = w.heap[c]?) : w'.ownsRow 0 e 1 v n xs := by
  refine ⟨h.1, ?_⟩
  rcases h.2 with q | ⟨g, cap, cur, rfl, q1, q2, q3⟩
  · exact .inl q
  · exact .inr ⟨g, cap, cur, rfl, q1, by rw [hk g rfl]; exact q2, q3⟩

theorem theR_ok {T e : Nat} {G : World → (Nat → Nat → Prop) → Prop} (hG : StatOk G) : ObjOk (theR T e G) where
  frame := fun k x w w' b F h hF => by
    rcases h with h | ⟨h1, h2, h3⟩
    · obtain ⟨hk, l, p, v, hx, ⟨h1, h2, h3, h4⟩, hf⟩ := h
      exact .inl ⟨hk, l, p, v, hx, ⟨h1, by rw [hF b ((hf b).2 (.inl rfl))]; exact h2, own_frame h3 (fun c hc => hF c ((hf c).2 (.inr hc))), h4⟩, hf⟩
    · refine .inr ⟨h1, ?_, h3⟩
      have := hF b ((h3 b).2 rfl)
      rcases Nat.lt_or_ge b w'.heap.size with q | q
      · exact q
      · rw [Array.getElem?_eq_none q, Array.getElem?_eq_getElem h2] at this; cases this
  lt := fun k x w b F h => by
    rcases h with h | ⟨h1, h2, h3⟩
    · obtain ⟨hk, l, p, v, hx, ⟨h1, h2, h3, h4⟩, hf⟩ := h
      refine ⟨fun c hc => ?_, (hf b).2 (.inl rfl)⟩
      rcases (hf c).1 hc with rfl | hc
      · rcases Nat.lt_or_ge c w.heap.size with q | q
        · exact q
        · rw [Array.getElem?_eq_none q] at h2; cases h2
      · exact (h3.lt c hc).2
    · exact ⟨fun c hc => by rw [(h3 c).1 hc]; exact h2, (h3 b).2 rfl⟩
  it := fun x w b F => by
    constructor
    · rintro (⟨h, _⟩ | ⟨_, h1, h2⟩)
      · cases h
      · exact ⟨h1, h2⟩
    · rintro ⟨h1, h2⟩
      exact .inr ⟨rfl, h1, h2⟩
  stat := hG

/-- A write onto a builder. -/
theorem bld_write {T e : Nat} {G : World → (Nat → Nat → Prop) → Prop} (hG : StatOk G) {cx : Cx} {S : St} {w w' : World} (hS : SRel (theR T e G) cx S w) {id : Nat} {l l' : List UInt8} (hk : S.H.get id = some (.obj 1 (.str l)))
    {v : Value} (hfv : ∀ c, cx.fp id c ↔ (c = cx.bm id ∨ v.ownBlock = some c)) (hp : BldPost w w' (cx.bm id) v (Lib.byteCells l') T e) :
    ∃ cx', SRel (theR T e G) cx' { S with H := S.H.set id (.obj 1 (.str l')) } w' ∧ Ext cx S w cx' { S with H := S.H.set id (.obj 1 (.str l')) } w' := by
  obtain ⟨⟨p1, p2, p3, p4⟩, v', b1, b2, b3, b4, b5⟩ := hp
  obtain ⟨o1, o2⟩ := hS.objs id _ _ hk
  let cx' : Cx := { cx with fp := fun i c => if i = id then (c = cx.bm id ∨ v'.ownBlock = some c) else cx.fp i c, fr := fun b o => (b = cx.bm id ∨ v'.ownBlock = some b) ∨ cx.fr b o }
  have hlt : ∀ c, (c = cx.bm id ∨ v'.ownBlock = some c) → c < w'.heap.size := fun c hc => by
    rcases hc with rfl | hc
    · rcases Nat.lt_or_ge (cx.bm id) w'.heap.size with q | q
      · exact q
      · rw [Array.getElem?_eq_none q] at b1; cases b1
    · exact (b2.lt c hc).2
  have hold : ∀ c, (c = cx.bm id ∨ v'.ownBlock = some c) → cx.fp id c ∨ w.heap.size ≤ c := fun c hc => by
    rcases hc with rfl | hc
    · exact .inl ((hfv _).2 (.inl rfl))
    · rcases b5 c hc with q | q
      · exact .inl ((hfv _).2 (.inr q))
      · exact .inr q
  refine ⟨cx', obj_sound (theR_ok hG) hS hk (fun k x hx => by simp [genD]) (fun g hg => by simp [isIt, AL.get_set] at hg) (fun g hg => by simp [isIt, hk] at hg) rfl rfl (fun i hi => by simp [AL.get_set, Ne.symm hi]) (.inr ⟨1, .str l', by simp [AL.get_set], .inl ⟨rfl, l', .pointer (some ⟨cx.bm id, 0, none⟩), v', rfl, ⟨.inr rfl, b1, b2, b3⟩, fun c => by simp [cx']⟩⟩)
    p4 p1 p2 p3 (fun b hb hn => b4 b hb (fun q => hn ((hfv b).2 (.inl q))) (fun q => hn ((hfv b).2 (.inr q.symm)))) (fun _ => rfl) (fun i hi b => by simp [cx', hi]) (fun _ => rfl) (fun _ => rfl)
    (fun b hb => ?_) (fun b o hb => ?_) (fun b o hf hb q => ?_) (fun b o hf => .inr hf) (fun b o hf => ?_)⟩
  · simp only [cx', if_true] at hb
    rcases hold b hb with q | q
    · exact .inl q
    · exact .inr ⟨q, hlt b hb⟩
  · simp only [cx', if_true] at hb
    exact .inl hb
  · rcases q with q | q
    · rcases hold b q with z | z
      · exact hf (o2 b o z)
      · omega
    · exact hf q
  · rcases hf with q | q
    · exact hlt b q
    · exact Nat.lt_of_lt_of_le (hS.lt b o q) p4

/-- A builder is put away. -/
theorem bld_away {T e : Nat} {G : World → (Nat → Nat → Prop) → Prop} (hG : StatOk G) {cx : Cx} {S : St} {w w' : World} (hS : SRel (theR T e G) cx S w) {id : Nat} {l : List UInt8} (hk : S.H.get id = some (.obj 1 (.str l)))
    {v : Value} (hfv : ∀ c, cx.fp id c ↔ (c = cx.bm id ∨ v.ownBlock = some c)) (hp : Kept w w' (cx.bm id) v) :
    SRel (theR T e G) cx { S with H := S.H.del id } w' ∧ Ext cx S w cx { S with H := S.H.del id } w' := by
  obtain ⟨p1, p2, p3, p4, p5⟩ := hp
  obtain ⟨o1, o2⟩ := hS.objs id _ _ hk
  exact obj_sound (theR_ok hG) hS hk (fun k x hx => by simp [genD]) (fun g hg => by simp [isIt, AL.get_del] at hg) (fun g hg => by simp [isIt, hk] at hg) rfl rfl (fun i hi => by simp [AL.get_del, Ne.symm hi]) (.inl (by simp [AL.get_del]))
    p4 p1 p2 p3 (fun b hb hn => p5 b hb (fun q => hn ((hfv b).2 (.inl q))) (fun q => hn ((hfv b).2 (.inr q.symm)))) (fun _ => rfl) (fun i hi b => Iff.rfl) (fun _ => rfl) (fun _ => rfl)
    (fun b hb => .inl hb) (fun b o hb => o2 b o hb) (fun b o hf hb q => hf q) (fun b o hf => hf) (fun b o hf => Nat.lt_of_lt_of_le (hS.lt b o hf) p4)

end
end Go.Ev


namespace Go.Ev
noncomputable section
open Go.Shelf Go.RowKit Go.Proofs
set_option linter.unusedVariables false
set_option linter.unusedSimpArgs false

abbrev Prim := List AV → St → Option (AV × St)

/-- What is asked of a function that is answered without its body. -/
structure PrimOk (R : ObjR) (P : Program) (f : Nat) (p : Prim) : Prop where
  pure : ∀ args S v S', p args S = some (v, S') → (toDs args).isSome = true → (toDT v).isSome = true → ∀ S2, p args S2 = some (v, S2)
  calls : ∀ args S v S', p args S = some (v, S') → (∃ fn, P.funcs[f]? = some fn ∧ fn.body.isSome = true ∧ fn.name ≠ "runtime.NumGoroutine") ∧
    ∀ cx w (us : List Value), SRel R cx S w → us.length = args.length → (∀ (i : Nat) (x : AV) (u : Value), args[i]? = some x → us[i]? = some u → ARel cx S w x u) →
    Calls P f us.toArray w (fun e w' => ∃ cx', SRel R cx' S' w' ∧ Ext cx S w cx' S' w' ∧ ∃ u, e = .returned u ∧ ARel cx' S' w' v u)

def primsOk (R : ObjR) (P : Program) : AL Prim → Prop
  | [] => True
  | (f, p) :: l => PrimOk R P f p ∧ primsOk R P l

theorem primsOk_get {R : ObjR} {P : Program} : ∀ {l : AL Prim} {f : Nat} {p : Prim}, primsOk R P l → AL.get l f = some p → PrimOk R P f p
  | [], f, p, _, h => by cases h
  | (k, q) :: l, f, p, hl, h => by
    rw [AL.get_cons] at h
    split at h
    · rename_i he
      cases h; subst he; exact hl.1
    · exact primsOk_get hl.2 h

/-! ### strings.Builder -/
def wbPrim (args : List AV) (S : St) : Option (AV × St) :=
  match args with
  | [.ptr id 0 0, .d (.int .u8 c)] => match S.H.get id with
    | some (.obj 1 (.str bs)) => if 0 ≤ c ∧ c < 256 ∧ bs.length + 1 ≤ bound then some (.d .nili, { S with H := S.H.set id (.obj 1 (.str (bs ++ [UInt8.ofNat c.toNat]))) }) else none
    | _ => none
  | _ => none
def wsPrim (args : List AV) (S : St) : Option (AV × St) :=
  match args with
  | [.ptr id 0 0, .d (.str s)] => match S.H.get id with
    | some (.obj 1 (.str bs)) => if bs.length + s.length ≤ bound then some (.tup [.d (.int .i64 (s.length : Nat)), .d .nili], { S with H := S.H.set id (.obj 1 (.str (bs ++ s))) }) else none
    | _ => none
  | _ => none
def stPrim (args : List AV) (S : St) : Option (AV × St) :=
  match args with
  | [.ptr id 0 0] => match S.H.get id with
    | some (.obj 1 (.str bs)) => some (.d (.str bs), { S with H := S.H.del id })
    | _ => none
  | _ => none

theorem bld_get {T e : Nat} {G : World → (Nat → Nat → Prop) → Prop} {cx : Cx} {S : St} {w : World} (hS : SRel (theR T e G) cx S w) {id : Nat} {l : List UInt8} (hk : S.H.get id = some (.obj 1 (.str l))) {u : Value} (hu : ARel cx S w (.ptr id 0 0) u) :
    u = .pointer (some ⟨cx.bm id, 0, none⟩) ∧ ∃ p v, BldAt T e (cx.bm id) p v (Lib.byteCells l) w ∧ ∀ c, cx.fp id c ↔ (c = cx.bm id ∨ v.ownBlock = some c) := by
  obtain ⟨⟨_, l', p, v, hx, h1, h2⟩ | ⟨h3, _⟩, _⟩ := hS.objs id _ _ hk
  rotate_left
  · cases h3
  cases hx
  cases hu with
  | ptr _ _ _ b hn hp =>
    have := hp (by simp [cur, hk, genD])
    subst this
    exact ⟨rfl, p, v, h1, h2⟩

theorem wbPrim_ok {G : World → (Nat → Nat → Prop) → Prop} (hG : StatOk G) {P : Program} {ρ : Ren} (L : Lays.n167 P ρ) (X : Builder.Extra P ρ) : PrimOk (theR (ρ.t 72) (ρ.t 5) G) P (ρ.f 167) wbPrim where
  pure := fun args S v S' h h1 => by
    exfalso
    unfold wbPrim at h
    split at h
    · simp [toDs, toD] at h1
    · cases h
  calls := fun args S v S' h => ⟨⟨_, L.f167, rfl, by show ¬ ("(*strings.Builder).WriteByte" = "runtime.NumGoroutine"); decide⟩, fun cx w us hS hl hr => by
    unfold wbPrim at h
    split at h
    · rename_i id c
      split at h
      · rename_i bs hk
        split at h
        · rename_i hc
          simp only [Option.some.injEq, Prod.mk.injEq] at h
          obtain ⟨rfl, rfl⟩ := h
          match us, hl with
          | [u0, u1], _ =>
          obtain ⟨rfl, p, v, h1, h2⟩ := bld_get hS hk (hr 0 _ _ rfl rfl)
          have r1 := hr 1 _ _ rfl rfl
          cases r1 with
          | d _ _ r1 =>
          have a1 := r1.val rfl; cases a1
          refine (bld_writeByte L X h1 c (by rw [Lib.byteCells_length]; exact hc.2.2)).mono (fun e w' hp => ?_)
          obtain ⟨rfl, hp⟩ := hp
          have hb : Lib.byteCells bs ++ [.int .u8 c] = Lib.byteCells (bs ++ [UInt8.ofNat c.toNat]) := by
            have : ((UInt8.ofNat c.toNat).toNat : Int) = c := by
              rw [UInt8.toNat_ofNat']
              have h0 := hc.1; have h1 := hc.2.1
              omega
            simp only [Lib.byteCells, List.map_append, List.map_cons, List.map_nil, this]
          rw [hb] at hp
          obtain ⟨cx', k1, k2⟩ := bld_write hG hS hk h2 hp
          exact ⟨cx', k1, k2, _, rfl, .d _ _ (DRel.of_cell .nili rfl)⟩
        · cases h
      · cases h
    · cases h⟩

theorem wsPrim_ok {G : World → (Nat → Nat → Prop) → Prop} (hG : StatOk G) {P : Program} {ρ : Ren} (L : Lays.n166 P ρ) (X : Builder.Extra P ρ) : PrimOk (theR (ρ.t 72) (ρ.t 5) G) P (ρ.f 166) wsPrim where
  pure := fun args S v S' h h1 => by
    exfalso
    unfold wsPrim at h
    split at h
    · simp [toDs, toD] at h1
    · cases h
  calls := fun args S v S' h => ⟨⟨_, L.f166, rfl, by show ¬ ("(*strings.Builder).WriteString" = "runtime.NumGoroutine"); decide⟩, fun cx w us hS hl hr => by
    unfold wsPrim at h
    split at h
    · rename_i id s
      split at h
      · rename_i bs hk
        split at h
        · rename_i hc
          simp only [Option.some.injEq, Prod.mk.injEq] at h
          obtain ⟨rfl, rfl⟩ := h
          match us, hl with
          | [u0, u1], _ =>
          obtain ⟨rfl, p, v, h1, h2⟩ := bld_get hS hk (hr 0 _ _ rfl rfl)
          have r1 := hr 1 _ _ rfl rfl
          cases r1 with
          | d _ _ r1 =>
          have a1 := r1.val rfl; cases a1
          rename_i s xx
          refine (bld_writeString L X h1 s (by rw [Lib.byteCells_length]; simpa using hc)).mono (fun e w' hp => ?_)
          obtain ⟨rfl, hp⟩ := hp
          have hb : Lib.byteCells bs ++ Lib.strCells s = Lib.byteCells (bs ++ s.data.toList) := by
            simp [Lib.byteCells, Lib.strCells]
          rw [hb] at hp
          obtain ⟨cx', k1, k2⟩ := bld_write hG hS hk h2 hp
          refine ⟨cx', k1, k2, _, rfl, .tup _ [.int .i64 (s.size : Nat), .nilIface] rfl (fun i x v hx hv => ?_)⟩
          match i, hx, hv with
          | 0, hx, hv =>
            simp at hx hv; subst hx; subst hv
            exact .d _ _ (DRel.of_cell (.int _ _) rfl)
          | 1, hx, hv =>
            simp at hx hv; subst hx; subst hv
            exact .d _ _ (DRel.of_cell .nili rfl)
        · cases h
      · cases h
    · cases h⟩

theorem stPrim_ok {G : World → (Nat → Nat → Prop) → Prop} (hG : StatOk G) {P : Program} {ρ : Ren} (L : Lays.n169 P ρ) (X : Builder.Extra P ρ) : PrimOk (theR (ρ.t 72) (ρ.t 5) G) P (ρ.f 169) stPrim where
  pure := fun args S v S' h h1 => by
    exfalso
    unfold stPrim at h
    split at h
    · simp [toDs, toD] at h1
    · cases h
  calls := fun args S v S' h => ⟨⟨_, L.f169, rfl, by show ¬ ("(*strings.Builder).String" = "runtime.NumGoroutine"); decide⟩, fun cx w us hS hl hr => by
    unfold stPrim at h
    split at h
    · rename_i id
      split at h
      · rename_i bs hk
        simp only [Option.some.injEq, Prod.mk.injEq] at h
        obtain ⟨rfl, rfl⟩ := h
        match us, hl with
        | [u0], _ =>
        obtain ⟨rfl, p, v, h1, h2⟩ := bld_get hS hk (hr 0 _ _ rfl rfl)
        refine (bld_string L X h1).mono (fun e w' hp => ?_)
        obtain ⟨rfl, hp⟩ := hp
        obtain ⟨k1, k2⟩ := bld_away hG hS hk h2 hp
        refine ⟨cx, k1, k2, _, rfl, .d _ _ (DRel.of_cell ?_ rfl)⟩
        have := CRel.str (w := w') (fr := cx.fr) ⟨bs.toArray⟩
        simpa using this
      · cases h
    · cases h⟩

end
end Go.Ev


namespace Go.Ev
noncomputable section
open Go.Shelf Go.RowKit Go.Proofs
set_option linter.unusedVariables false
set_option linter.unusedSimpArgs false

/-! ### Functions of plain data -/

/-- What a function of plain data leaves. -/
def Leaves (w : World) (fr : Nat → Nat → Prop) (v : AV) (e : Ending) (w' : World) : Prop :=
  Below w.heap.size w w' ∧ ∃ u, e = .returned u ∧ ∀ cx S, cx.fr = fr → ARel cx S w' v u

def purePrim (spec : List D → Option AV) : Prim := fun args S => match toDs args with
  | some ds => (spec ds).map fun v => (v, S)
  | none => none

theorem purePrim_ok {R : ObjR} (hR : ObjOk R) {P : Program} {f : Nat} {spec : List D → Option AV} (hd : ∀ ds v, spec ds = some v → (toDT v).isSome = true)
    (hb : ∃ fn, P.funcs[f]? = some fn ∧ fn.body.isSome = true ∧ fn.name ≠ "runtime.NumGoroutine")
    (hc : ∀ ds v, spec ds = some v → ∀ (w : World) (fr : Nat → Nat → Prop) (us : List Value), R.G w fr → (∀ b o, fr b o → b < w.heap.size) → us.length = ds.length → (∀ (i : Nat) (y : D) (u : Value), ds[i]? = some y → us[i]? = some u → DRel w fr y u) →
      Calls P f us.toArray w (Leaves w fr v)) : PrimOk R P f (purePrim spec) where
  pure := fun args S v S' h _ _ S2 => by
    unfold purePrim at h ⊢
    split at h
    · rename_i ds hds
      simp only [Option.map_eq_some_iff, Prod.mk.injEq] at h
      obtain ⟨a, h1, rfl, _⟩ := h
      simp [hds, h1]
    · cases h
  calls := fun args S v S' h => ⟨hb, fun cx w us hS hl hr => by
    unfold purePrim at h
    split at h
    · rename_i ds hds
      simp only [Option.map_eq_some_iff, Prod.mk.injEq] at h
      obtain ⟨a, h1, rfl, rfl⟩ := h
      obtain ⟨d1, d2⟩ := toDs_spec hds
      refine (hc ds a h1 w cx.fr us hS.stat hS.lt (by rw [hl, d1]) (fun i y u hy hu => ?_)).mono (fun e w' hp => ?_)
      · have hlt : i < args.length := by rw [← d1]; exact (List.getElem?_eq_some_iff.1 hy).1
        have ha := List.getElem?_eq_getElem hlt
        exact toD_sound (d2 i _ y ha hy) (hr i _ u ha hu)
      · obtain ⟨hbl, u, rfl, hv⟩ := hp
        have e : Ext cx S w cx S w' := Ext.old hS hbl.size (fun b hb => hbl.block b hb) hbl.os hbl.tape hbl.output
        exact ⟨cx, SRel.old hR hS hbl.size (fun b hb => hbl.block b hb) e, e, u, rfl, hv cx S rfl⟩
    · cases h⟩

theorem str_rel (w : World) (fr : Nat → Nat → Prop) (l : List UInt8) : DRel w fr (.str l) (.string ⟨l.toArray⟩) := by
  have := CRel.str (w := w) (fr := fr) ⟨l.toArray⟩
  exact DRel.of_cell (by simpa using this) rfl

theorem str_inv {w : World} {fr : Nat → Nat → Prop} {l : List UInt8} {u : Value} (h : DRel w fr (.str l) u) : u = .string ⟨l.toArray⟩ := by
  have a := h.val rfl
  cases a
  simp

/-! ### strings.Trim at a set of ASCII letters -/
def trimSpec : List D → Option AV
  | [.str s, .str c] => if s.length ≤ bound ∧ c.length ≤ 1000 ∧ (c.all fun b => decide (b.toNat < 128)) = true then some (.d (.str (Lib.trimS s c))) else none
  | _ => none

theorem trimPrim_ok {R : ObjR} (hR : ObjOk R) {P : Program} {ρ : Ren} (L : Lays.n160 P ρ) (h116 : (P.info? (ρ.t 116)).map (fun i => (i.zero, i.size)) = some (some (.agg (Array.replicate 256 (.bool false))), 256)) :
    PrimOk R P (ρ.f 160) (purePrim trimSpec) := by
  refine purePrim_ok hR (fun ds v h => ?_) ⟨_, L.f160, rfl, by show ¬ ("strings.Trim" = "runtime.NumGoroutine"); decide⟩ (fun ds v h w fr us hG hfr hl hr => ?_)
  · unfold trimSpec at h
    split at h
    · split at h
      · simp only [Option.some.injEq] at h; subst h; rfl
      · cases h
    · cases h
  · unfold trimSpec at h
    split at h
    · rename_i s c
      split at h
      · rename_i hc
        obtain ⟨h1, h2, h3⟩ := hc
        simp only [Option.some.injEq] at h; subst h
        match us, hl with
        | [u0, u1], _ =>
        obtain rfl := str_inv (hr 0 _ _ rfl rfl)
        obtain rfl := str_inv (hr 1 _ _ rfl rfl)
        refine (Any.strings_Trim_laid L h116 ⟨s.toArray⟩ ⟨c.toArray⟩ w (by simp [ByteArray.size]; unfold bound at h1; omega) (by simp [ByteArray.size]; omega) (by simpa using ascii_of_all h3)).mono (fun e w' hp => ?_)
        obtain ⟨rfl, hb⟩ := hp
        exact ⟨hb, _, rfl, fun cx S _ => .d _ _ (by simpa using str_rel w' cx.fr (Lib.trimS s c))⟩
      · cases h
    · cases h

end
end Go.Ev


namespace Go.Ev
noncomputable section
set_option linter.unusedVariables false

/-- May a function be entered? -/
def okFn (P : Program) (f : Nat) : Bool := match P.funcs[f]? with
  | some fn => (match fn.body with | some c => codeOk c | none => true) && !(fn.name == "runtime.NumGoroutine")
  | none => true

def hasN : List Nat → Nat → Bool
  | [], _ => false
  | x :: l, n => bif Nat.beq x n then true else hasN l n

theorem hasN_mem : ∀ {l : List Nat} {n : Nat}, hasN l n = true → n ∈ l
  | [], n, h => by cases h
  | x :: l, n, h => by
    unfold hasN at h
    cases hb : Nat.beq x n
    · rw [hb] at h; exact List.mem_cons_of_mem _ (hasN_mem h)
    · have := Nat.eq_of_beq_eq_true hb; subst this; exact List.mem_cons_self

/-- No static fact. -/
def noG : World → (Nat → Nat → Prop) → Prop := fun _ _ => True
theorem noG_ok : StatOk noG := fun _ _ _ _ _ _ => trivial

/-- The evaluation of a program: the functions that may be entered, the slices that are rows, the functions that are answered without their bodies, the type of strings.Builder. -/
def theCfg (P : Program) (good rows : List Nat) (ps : AL Prim) (hasB : Bool) (bt : Nat) : Cfg :=
  { P := P, good := hasN good, rowT := hasN rows, prim := fun f args S => match AL.get ps f with | some p => p args S | none => none,
    objT := fun t => bif hasB && Nat.beq t bt then some (1, .str []) else none, hasPrim := AL.has ps }

theorem theCfg_ok {G : World → (Nat → Nat → Prop) → Prop} (hG : StatOk G) {P : Program} {good rows : List Nat} {ps : AL Prim} {hasB : Bool} {bt e : Nat} (hg : good.all (okFn P) = true) (hm : P.follows .mixedOrders = true)
    (hz : hasB = true → ∀ w, (zeroValue bt).run P w = .ok (.agg #[.pointer none, .slice none 0 0]) w) (hp : primsOk (theR bt e G) P ps) : CfgOk (theR bt e G) (theCfg P good rows ps hasB bt) where
  obj := { theR_ok hG with
    new := fun t k x h => by
      simp only [theCfg] at h
      cases hb : hasB && Nat.beq t bt with
      | false => rw [hb] at h; cases h
      | true =>
        rw [hb] at h
        simp only [cond_true, Option.some.injEq, Prod.mk.injEq] at h
        obtain ⟨rfl, rfl⟩ := h
        simp only [Bool.and_eq_true] at hb
        have ht := Nat.eq_of_beq_eq_true hb.2
        subst ht
        exact ⟨_, hz hb.1, fun w => .inl ⟨rfl, [], .pointer none, .slice none 0 0, rfl, ⟨.inl rfl, heap_alloc_new w _, World.ownsRow_nil _ 0 e 1, by simp [Value.ownBlock]⟩, fun c => by simp [Value.ownBlock]⟩, rfl⟩ }
  mixed := hm
  code := fun f fn c h hf hc => by
    have := List.all_eq_true.1 hg f (hasN_mem h)
    unfold okFn at this
    have hf' : P.funcs[f]? = some fn := hf
    simp only [hf', hc, Bool.and_eq_true, Bool.not_eq_true'] at this
    exact ⟨this.1, fun q => by rw [q] at this; simp at this⟩
  primPure := fun f args S v S' _ h h1 h2 S2 => by
    simp only [theCfg] at h ⊢
    split at h
    · rename_i p hq; exact (primsOk_get hp hq).pure args S v S' h h1 h2 S2
    · cases h
  prim := fun f args S v S' _ h => by
    simp only [theCfg] at h
    split at h
    · rename_i p hq; exact (primsOk_get hp hq).calls args S v S' h
    · cases h

end
end Go.Ev


namespace Go.Ev
noncomputable section
set_option linter.unusedVariables false
set_option linter.unusedSimpArgs false

/-! ### What is handed in, as typed data -/
def noFr : Nat → Nat → Prop := fun _ _ => False

/-- Cells that hold pieces of data, one each. -/
structure CsRel (w : World) (ds : List D) (cs : List Value) : Prop where
  len : cs.length = ds.length
  one : ∀ v ∈ cs, v.oneCell' = true
  flat : ∀ d ∈ ds, d.isAgg = false
  rel : ∀ (i : Nat) (d : D) (v : Value), ds[i]? = some d → cs[i]? = some v → CRel w noFr d [v]

theorem CsRel.nil {w : World} : CsRel w [] [] := ⟨rfl, by simp, by simp, by simp⟩
theorem CsRel.append {w : World} {a b : List D} {x y : List Value} (h : CsRel w a x) (k : CsRel w b y) : CsRel w (a ++ b) (x ++ y) where
  len := by simp [h.len, k.len]
  one := fun v hv => by rcases List.mem_append.1 hv with q | q; exact h.one v q; exact k.one v q
  flat := fun v hv => by rcases List.mem_append.1 hv with q | q; exact h.flat v q; exact k.flat v q
  rel := fun i d v hd hv => by
    by_cases hi : i < a.length
    · rw [List.getElem?_append_left hi] at hd
      rw [List.getElem?_append_left (by rw [h.len]; exact hi)] at hv
      exact h.rel i d v hd hv
    · rw [List.getElem?_append_right (by omega)] at hd
      rw [List.getElem?_append_right (by rw [h.len]; omega), h.len] at hv
      exact k.rel _ d v hd hv
theorem CsRel.single {w : World} {d : D} {v : Value} (h : CRel w noFr d [v]) (ho : v.oneCell' = true) (hd : d.isAgg = false) : CsRel w [d] [v] where
  len := rfl
  one := by simpa using ho
  flat := by simpa using hd
  rel := fun i d' v' h1 h2 => by
    cases i with
    | zero => simp at h1 h2; subst h1; subst h2; exact h
    | succ i => simp at h1
theorem CsRel.crel {w : World} {x : D} {cs : List Value} (h : CsRel w x.cells cs) : CRel w noFr x cs := by
  cases hx : x.isAgg with
  | true =>
    cases x <;> simp [D.isAgg] at hx
    rename_i xs
    exact .agg xs cs h.len h.one h.flat h.rel
  | false =>
    have hc : x.cells = [x] := by cases x <;> simp_all [D.isAgg, D.cells]
    rw [hc] at h
    have hl := h.len
    match cs, hl with
    | [v], _ => exact h.rel 0 x v rfl rfl

/-- Of every value that reads as a datum of the type: typed data that it is. -/
def OpenC (P : Program) (t : Nat) {α : Type} (enc : α → D) (wf : α → Prop) : Prop :=
  ∀ {H : Type} (en : TypeId × Value → H) (w : World) (base : Nat) (sp : Nat → Bool) (held : Bool) (fuel : Nat) (cs : List Value) (d : DataW H) (p : List MemPlace),
    DataW.trod en P w base sp held fuel t cs = some (d, p) → ∃ x, wf x ∧ CsRel w (enc x).cells cs

theorem OpenC.int {P : Program} {t : Nat} {k : IntKind} (hu : P.underlying t = some (.int k)) : OpenC P t (D.int k) (fun n => (Lit.int k n).wf = true) := by
  intro H en w base sp held fuel cs d p h
  cases fuel with
  | zero => cases h
  | succ fuel =>
    simp only [DataW.trod, hu] at h
    split at h <;> first | (simp_all; done) | skip
    rename_i k' k2 n heq
    simp only [Option.some.injEq, TypeDesc.int.injEq] at heq
    subst heq
    split at h
    · rename_i hc
      obtain ⟨rfl, hw⟩ := hc
      exact ⟨n, hw, .single (.int _ _) rfl rfl⟩
    · cases h
theorem OpenC.bool {P : Program} {t : Nat} (hu : P.underlying t = some .bool) : OpenC P t D.bool (fun _ => True) := by
  intro H en w base sp held fuel cs d p h
  cases fuel with
  | zero => cases h
  | succ fuel =>
    simp only [DataW.trod, hu] at h
    split at h <;> first | (simp_all; done) | skip
    rename_i b heq
    exact ⟨b, trivial, .single (.bool _) rfl rfl⟩
theorem OpenC.str {P : Program} {t : Nat} (hu : P.underlying t = some .string) : OpenC P t D.str (fun s => s.length ≤ maxLen) := by
  intro H en w base sp held fuel cs d p h
  cases fuel with
  | zero => cases h
  | succ fuel =>
    simp only [DataW.trod, hu] at h
    split at h <;> first | (simp_all; done) | skip
    rename_i s heq
    split at h
    · rename_i hc
      exact ⟨s.data.toList, by simpa using hc, .single (.str _) rfl rfl⟩
    · cases h
theorem slots_len {w : World} {base : Nat} {a : Addr} {n : Nat} {cs : List Value} (h : w.cells? base a n = some cs) : cs.length = n ∧ ∀ j v, cs[j]? = some v → w.cell? (a.add j) = some v := by
  unfold World.cells? at h
  split at h
  · have hl := mapM_some_length h
    refine ⟨by simpa using hl, fun j v hj => ?_⟩
    have hlt : j < n := by have := (List.getElem?_eq_some_iff.1 hj).1; rw [hl] at this; simpa using this
    have := mapM_some_get h j j (by simp [hlt])
    rw [this, hj]
  · cases h
theorem OpenC.slice {P : Program} {t e : Nat} {α : Type} {enc : α → D} {wf : α → Prop} (hu : P.underlying t = some (.slice e)) (he : OpenC P e enc wf) (hsz : ∀ x, (enc x).cells.length = P.cellsOf e) (h0 : 0 < P.cellsOf e) :
    OpenC P t (encL enc) (fun l => l.length ≤ maxLen ∧ ∀ x ∈ l, wf x) := by
  intro H en w base sp held fuel cs d p h
  cases fuel with
  | zero => cases h
  | succ fuel =>
    simp only [DataW.trod, hu] at h
    split at h <;> first | (simp_all; done) | skip
    · exact ⟨[], ⟨by simp, by simp⟩, .single (.sl0 none 0 false (fun h => by cases h)) rfl rfl⟩
    · rename_i e' a len cap heq
      simp only [Option.some.injEq, TypeDesc.slice.injEq] at heq
      subst heq
      split at h
      · rename_i hc
        simp only [Option.bind_eq_some_iff] at h
        obtain ⟨els, hels, h⟩ := h
        have hl := mapM_some_length hels
        have each : ∀ i, i < len → ∃ x ci, wf x ∧ w.cells? base (a.add (i * P.cellsOf e)) (P.cellsOf e) = some ci ∧ CsRel w (enc x).cells ci := fun i hi => by
          have hg := mapM_some_get hels i i (by simp [hi])
          have hlt : i < els.length := by rw [hl]; simpa using hi
          rw [List.getElem?_eq_getElem hlt, Option.bind_eq_some_iff] at hg
          obtain ⟨ci, h1, h2⟩ := hg
          obtain ⟨x, hx, hr⟩ := he en w base sp held fuel ci _ _ h2
          exact ⟨x, ci, hx, h1, hr⟩
        by_cases hz : len = 0
        · subst hz
          exact ⟨[], ⟨by simp, by simp⟩, .single (.sl0 (some a) cap false (fun h => by cases h)) rfl rfl⟩
        · -- pick the elements
          have hpos : 0 < len := by omega
          have hspot : a.spot = none := by
            obtain ⟨x, ci, _, h1, _⟩ := each 0 hpos
            obtain ⟨l1, l2⟩ := slots_len h1
            have hne : 0 < ci.length := by omega
            have := l2 0 ci[0] (List.getElem?_eq_getElem hne)
            unfold World.cell? at this
            split at this
            · split at this
              · cases this
              · rename_i hs; cases hsp : a.spot with
                | none => rfl
                | some q => simp [Addr.add, hsp] at hs
            · cases this
          have : Inhabited α := ⟨(each 0 hpos).choose⟩
          let f : Nat → α := fun i => if hi : i < len then (each i hi).choose else default
          let g : Nat → List Value := fun i => if hi : i < len then (each i hi).choose_spec.choose else []
          have hfg : ∀ i, i < len → wf (f i) ∧ w.cells? base (a.add (i * P.cellsOf e)) (P.cellsOf e) = some (g i) ∧ CsRel w (enc (f i)).cells (g i) := fun i hi => by
            have := (each i hi).choose_spec.choose_spec
            simp only [f, g, hi, dif_pos]
            exact this
          let l := (List.range len).map f
          have hll : l.length = len := by simp [l]
          have hli : ∀ i x, l[i]? = some x → i < len ∧ x = f i := fun i x hx => by
            simp only [l, List.getElem?_map, Option.map_eq_some_iff] at hx
            obtain ⟨j, hj, rfl⟩ := hx
            have := List.getElem?_eq_some_iff.1 hj
            obtain ⟨h1, h2⟩ := this
            simp at h1 h2
            subst h2
            exact ⟨h1, rfl⟩
          refine ⟨l, ⟨by rw [hll]; omega, fun x hx => ?_⟩, ?_⟩
          · obtain ⟨i, hi, rfl⟩ := List.getElem_of_mem hx
            obtain ⟨h1, h2⟩ := hli i _ (List.getElem?_eq_getElem hi)
            rw [h2]; exact (hfg i h1).1
          · have ha : a = ⟨a.block, a.off, none⟩ := by rw [← hspot]
            refine .single ?_ rfl rfl
            rw [ha]
            have hlm : (l.map enc).length = len := by simp [hll]
            have key : CRel w noFr (.sl (l.map enc) false) [.slice (some ⟨a.block, a.off, none⟩) (l.map enc).length cap] := by
              refine .sl (l.map enc) false a.block a.off cap (P.cellsOf e) g ?_ (by rw [hlm]; exact hc.2.1) (fun h => by cases h) (fun i x hi => ?_) (fun i hi => ?_) (fun i x hi => ?_) (fun i j v hi hv => ?_)
              · intro q; rw [q] at hlm; simp at hlm; omega
              · rw [List.getElem?_map, Option.map_eq_some_iff] at hi
                obtain ⟨y, _, rfl⟩ := hi
                exact hsz y
              · exact (slots_len (hfg i (by rw [hlm] at hi; exact hi)).2.1).1
              · rw [List.getElem?_map, Option.map_eq_some_iff] at hi
                obtain ⟨y, hy, rfl⟩ := hi
                obtain ⟨h1, rfl⟩ := hli i y hy
                exact (hfg i h1).2.2.crel
              · rw [hlm] at hi
                have := (slots_len (hfg i hi).2.1).2 j v hv
                refine ⟨?_, fun q => q⟩
                rw [← this]
                congr 1
                have hz : ∀ (b : Addr) (m : Nat), b.spot = none → b.add m = ⟨b.block, b.off + m, none⟩ := fun b m hb => by
                  obtain ⟨b1, b2, b3⟩ := b
                  cases hb
                  cases m <;> simp [Addr.add]
                rw [hz a _ hspot, hz _ j rfl]
            rw [hlm] at key
            exact key
      · cases h

/-- The fields of a struct from an offset on. -/
def OpenF (P : Program) (fs : List Field) (off tot : Nat) {β : Type} (enc : β → List D) (wf : β → Prop) : Prop :=
  ∀ {H : Type} (en : TypeId × Value → H) (w : World) (base : Nat) (sp : Nat → Bool) (held : Bool) (fuel : Nat) (cs : List Value) (xs : List (DataW H × List MemPlace)),
    (fs.mapM fun f => DataW.trod en P w base sp held fuel f.type ((cs.drop f.offset).take (P.cellsOf f.type))) = some xs → ∃ y, wf y ∧ CsRel w (enc y) ((cs.drop off).take tot)

theorem OpenF.nil {P : Program} {off : Nat} : OpenF P [] off 0 (fun _ : Unit => []) (fun _ => True) :=
  fun en w base sp held fuel cs xs h => ⟨(), trivial, by simpa using CsRel.nil⟩
theorem OpenF.cons {P : Program} {f : Field} {fs : List Field} {off sz tot : Nat} {α β : Type} {enc : α → D} {wf : α → Prop} {enc2 : β → List D} {wf2 : β → Prop}
    (ho : f.offset = off) (hz : P.cellsOf f.type = sz) (h : OpenC P f.type enc wf) (k : OpenF P fs (off + sz) tot enc2 wf2) :
    OpenF P (f :: fs) off (sz + tot) (fun p : α × β => (enc p.1).cells ++ enc2 p.2) (fun p => wf p.1 ∧ wf2 p.2) := by
  intro H en w base sp held fuel cs xs hx
  simp only [List.mapM_cons, Option.pure_def, Option.bind_eq_bind, Option.bind_eq_some_iff] at hx
  obtain ⟨x, hx, ys, hys, _⟩ := hx
  rw [ho, hz] at hx
  obtain ⟨a, a1, a2⟩ := h en w base sp held fuel _ x.1 x.2 hx
  obtain ⟨b, b1, b2⟩ := k en w base sp held fuel cs ys hys
  refine ⟨(a, b), ⟨a1, b1⟩, ?_⟩
  rw [List.take_add, List.drop_drop]
  exact a2.append b2
theorem OpenC.struct {P : Program} {t tot : Nat} {fs : Array Field} {α β : Type} {enc : α → D} {wf : α → Prop} {enc2 : β → List D} {wf2 : β → Prop} (hu : P.underlying t = some (.struct fs)) (hz : P.cellsOf t = tot)
    (h : OpenF P fs.toList 0 tot enc2 wf2) (g : β → α) (hg : ∀ y, (enc (g y)).cells = enc2 y) (hw : ∀ y, wf2 y → wf (g y)) : OpenC P t enc wf := by
  intro H en w base sp held fuel cs d p hd
  cases fuel with
  | zero => cases hd
  | succ fuel =>
    simp only [DataW.trod, hu] at hd
    split at hd
    · rename_i hc
      simp only [Option.map_eq_some_iff] at hd
      obtain ⟨xs, hxs, _⟩ := hd
      obtain ⟨y, y1, y2⟩ := h en w base sp held fuel cs xs hxs
      refine ⟨g y, hw y y1, ?_⟩
      rw [hg y]
      rw [hz] at hc
      simpa [← hc] using y2
    · cases hd

/-! ### An argument of a call -/
theorem arg_struct {P : Program} {t : Nat} {fs : Array Field} {α : Type} {enc : α → D} {wf : α → Prop} (hu : P.underlying t = some (.struct fs)) (O : OpenC P t enc wf) (ha : ∀ x, (enc x).isAgg = true)
    {H : Type} {en : TypeId × Value → H} {w : World} {base b0 : Nat} {sp : Nat → Bool} {held : Bool} {v : Value} {d : DataW H} {p : List MemPlace} {r : Reach} (hval : Value.okWide P w r b0 t v) (hd : DataW.Trod en P w base sp held t v d p) :
    ∃ x, wf x ∧ DRel w noFr (enc x) v := by
  unfold Value.okWide at hval
  rw [hu] at hval
  obtain ⟨cs, rfl, _, _⟩ := hval
  obtain ⟨fuel, hf⟩ := hd
  obtain ⟨x, x1, x2⟩ := O en w base sp held fuel _ d p hf
  exact ⟨x, x1, x2.crel, ha x⟩
theorem arg_one {P : Program} {t : Nat} {α : Type} {enc : α → D} {wf : α → Prop} (O : OpenC P t enc wf) (ha : ∀ x, (enc x).isAgg = false)
    {H : Type} {en : TypeId × Value → H} {w : World} {base b0 : Nat} {sp : Nat → Bool} {held : Bool} {v : Value} {d : DataW H} {p : List MemPlace} (hval : vAgg v = false) (hd : DataW.Trod en P w base sp held t v d p) :
    ∃ x, wf x ∧ DRel w noFr (enc x) v := by
  obtain ⟨fuel, hf⟩ := hd
  obtain ⟨x, x1, x2⟩ := O en w base sp held fuel _ d p hf
  exact ⟨x, x1, x2.crel, by rw [hval]; exact ha x⟩
end
end Go.Ev


namespace Go.Ev
noncomputable section
set_option linter.unusedVariables false
set_option linter.unusedSimpArgs false
variable {R : ObjR} {C : Cfg} {P : Program}

/-! ### From what the library's functions and the evaluation answer to contracts -/
theorem SpecF.of_prim {f : Nat} {p : Prim} (h : PrimOk R P f p) {args : List AV} {S S' : St} {v : AV} (hp : p args S = some (v, S')) : SpecF R P f args S (fun r => r = (none, v, S')) := by
  obtain ⟨h1, h2⟩ := h.calls args S v S' hp
  refine ⟨h1, fun cx w us q1 q2 q3 => (h2 cx w us q1 q2 q3).mono (fun e w' ⟨cx', k1, k2, u, k3, k4⟩ => ⟨_, rfl, cx', k1, k2, u, k3, k4⟩)⟩
theorem SpecC.of_pure {f : Nat} {spec : List D → Option AV} (h : PrimOk R P f (purePrim spec)) {ds : List D} {v : AV} (hv : spec ds = some v) : SpecC R P f ds v := fun args S ha => by
  have hp : purePrim spec (ds.map .d) S = some (v, S) := by
    unfold purePrim
    rw [toDs_d]
    simp [hv]
  exact (SpecF.of_prim h hp).argsL ha.lessL
theorem BldOk.of_prims {fb fs ft : Nat} (h1 : PrimOk R P fb wbPrim) (h2 : PrimOk R P fs wsPrim) (h3 : PrimOk R P ft stPrim) : BldOk R P fb fs ft where
  wb := fun S id s c r hS hr => SpecF.of_prim h1 (by
    unfold bldB at hr
    split at hr
    · rename_i hc; cases hr
      unfold wbPrim
      simp only [hS]
      rw [if_pos hc]
    · cases hr)
  ws := fun S id s u r hS hr => SpecF.of_prim h2 (by
    unfold bldS at hr
    split at hr
    · rename_i hc; cases hr
      unfold wsPrim
      simp only [hS]
      rw [if_pos hc]
    · cases hr)
  st := fun S id s hS => SpecF.of_prim h3 (by
    unfold stPrim
    simp only [hS])
theorem SpecC.of_ev (ok : CfgOk R C) {n f : Nat} {x : D} (h : evF C n f [] pureSt = some [(none, .d x, pureSt)]) : SpecC R C.P f [] (.d x) := fun args S ha => by
  obtain ⟨ds', h1, h2⟩ := ha
  cases h2
  have ha : args = [] := by
    cases args with
    | nil => rfl
    | cons y l =>
      simp only [toDs] at h1
      split at h1
      · cases hq : toDs l <;> rw [hq] at h1 <;> cases h1
      · cases h1
  subst ha
  refine SpecV.of ok.obj.toObjOk (ds := []) (v := .d x) rfl ?_ S
  refine (SpecF.of_ev ok h).mono (fun r hr => ?_)
  simp only [List.mem_singleton] at hr
  subst hr
  exact ⟨rfl, rfl⟩

/-- A contract, as a call in the world. -/
theorem calls_of_spec (hR : ObjOk R) {f : Nat} {ds : List D} {x : D} (h : SpecC R P f ds (.d x)) (w : World) (hG : R.G w (fun _ _ => False)) (us : List Value) (hl : us.length = ds.length)
    (hr : ∀ (i : Nat) (y : D) (u : Value), ds[i]? = some y → us[i]? = some u → DRel w (fun _ _ => False) y u) :
    Calls P f us.toArray w (fun e w' => ∃ u, e = .returned u ∧ DRel w' (fun _ _ => False) x u ∧ RowKit.Below w.heap.size w w') := by
  let cx : Cx := { bm := fun _ => 0, fp := fun _ _ => False, tsz := fun _ => 0, tot := fun _ => 0, fr := fun _ _ => False }
  have hS : SRel R cx pureSt w := ⟨fun id hl => absurd rfl hl, fun id b hb => by simp [pureSt, AL.get] at hb, fun id g cs hb => by simp [pureSt, AL.get] at hb, fun id es hb => by simp [pureSt, AL.get] at hb,
    fun id k x hb => by simp [pureSt, AL.get] at hb, fun id en hb => by simp [pureSt, AL.get] at hb, fun id id' b hl => absurd rfl hl, fun b o q => q.elim, hG⟩
  have h2 := (h (ds.map .d) pureSt ⟨ds, toDs_d ds, .refl ds⟩).2
  refine (h2 cx w us hS (by simp [hl]) (fun i y u hy hu => ?_)).mono (fun e w' he => ?_)
  · simp only [List.getElem?_map, Option.map_eq_some_iff] at hy
    obtain ⟨z, hz, rfl⟩ := hy
    exact .d z u (hr i z u hz hu)
  · obtain ⟨r, rfl, cx', k1, k2, k3⟩ := he
    obtain ⟨u, rfl, k3⟩ := k3
    obtain ⟨m1, m2, m3⟩ := pure_back hR hS k2
    exact ⟨u, rfl, m3 _ _ k3.dd, ⟨m2.os, m2.tape, m2.output, m2.size, fun b hb => (k2.other b hb (fun id hl => absurd rfl hl)).1⟩⟩
end
end Go.Ev


namespace Go.Ev
noncomputable section
set_option linter.unusedVariables false
set_option linter.unusedSimpArgs false
variable {R : ObjR} {P : Program} {B : St}

/-! ### Calls that are handed variables of one's own, and may change them -/
theorem live_iff {S : St} {id : Nat} : live S id ↔ S.H.get id ≠ none ∨ S.T.get id ≠ none := by
  unfold live cur
  cases hH : S.H.get id with
  | none => simp
  | some b => cases b <;> simp

/-- The memory without what one has. -/
def without (S : St) (ids : List Nat) : St := ids.foldl (fun S id => { S with H := S.H.del id, T := S.T.del id }) S
theorem without_nx : ∀ (ids : List Nat) (S : St), (without S ids).nx = S.nx
  | [], S => rfl
  | id :: l, S => without_nx l { S with H := S.H.del id, T := S.T.del id }
theorem without_H : ∀ (ids : List Nat) (S : St) (k : Nat), (without S ids).H.get k = if k ∈ ids then none else S.H.get k
  | [], S, k => by simp [without]
  | id :: l, S, k => by
    show (without { S with H := S.H.del id, T := S.T.del id } l).H.get k = _
    rw [without_H l]
    simp only [AL.get_del]
    by_cases h1 : k ∈ l
    · simp [h1]
    · by_cases h2 : id = k
      · subst h2; simp
      · simp [h1, h2, Ne.symm h2]
theorem without_T : ∀ (ids : List Nat) (S : St) (k : Nat), (without S ids).T.get k = if k ∈ ids then none else S.T.get k
  | [], S, k => by simp [without]
  | id :: l, S, k => by
    show (without { S with H := S.H.del id, T := S.T.del id } l).T.get k = _
    rw [without_T l]
    simp only [AL.get_del]
    by_cases h1 : k ∈ l
    · simp [h1]
    · by_cases h2 : id = k
      · subst h2; simp
      · simp [h1, h2, Ne.symm h2]

theorem Asn.there {S : St} {a : Asn} (h : a.ok S) : ∀ id ∈ a.fp, S.H.get id ≠ none ∨ S.T.get id ≠ none := fun id hid => by
  cases a with
  | box i cs => simp only [Asn.fp, List.mem_singleton] at hid; subst hid; left; rw [show S.H.get id = _ from h]; simp
  | obj i k x => simp only [Asn.fp, List.mem_singleton] at hid; subst hid; left; rw [show S.H.get id = _ from h]; simp
  | map i m => simp only [Asn.fp, List.mem_singleton] at hid; subst hid; left; rw [show S.H.get id = _ from h]; simp
  | grow v xs =>
    cases v <;> simp only [Asn.fp, List.not_mem_nil, List.mem_singleton] at hid
    subst hid
    right; rw [h.2.2.1]; simp
  | row sz v xs =>
    cases v <;> simp only [Asn.fp, List.not_mem_nil, List.mem_singleton] at hid
    subst hid
    obtain ⟨cs, _, h8⟩ := h.2.2.2.2.2.2
    left; rw [h8]; simp

theorem Has.frame {S : St} {l1 l2 : List Asn} (H : Has B S (l1 ++ l2)) : ∃ B', Has B' S l1 ∧ ∀ S' l1', Has B' S' l1' → (∀ id b, S'.H.get id = some b → S'.T.get id = none) → Has B S' (l1' ++ l2) := by
  let ids := (l1.map Asn.fp).flatten
  let B' := without S ids
  have hmem : ∀ a ∈ l1, ∀ id ∈ a.fp, id ∈ ids := fun a ha id hid => List.mem_flatten.2 ⟨_, List.mem_map.2 ⟨a, ha, rfl⟩, hid⟩
  have hnd := H.nd
  rw [List.map_append, List.flatten_append, List.nodup_append] at hnd
  have hnot : ∀ a ∈ l2, ∀ id ∈ a.fp, id ∉ ids := fun a ha id hid hq =>
    hnd.2.2 id hq id (List.mem_flatten.2 ⟨_, List.mem_map.2 ⟨a, ha, rfl⟩, hid⟩) rfl
  have hBids : ∀ id ∈ ids, B.H.get id = none ∧ B.T.get id = none := fun id hid => by
    obtain ⟨fps, h1, h2⟩ := List.mem_flatten.1 hid
    obtain ⟨a, ha, rfl⟩ := List.mem_map.1 h1
    exact H.out a (List.mem_append_left _ ha) id h2
  have hwf : B'.Wf := fun id hl => by
    show id < B'.nx
    rw [without_nx]
    refine H.wf id (live_iff.2 ?_)
    rcases live_iff.1 hl with h | h
    · rw [without_H] at h
      split at h
      · exact absurd rfl h
      · exact .inl h
    · rw [without_T] at h
      split at h
      · exact absurd rfl h
      · exact .inr h
  refine ⟨B', ⟨H.wf, fun a ha => H.ok a (List.mem_append_left _ ha), hnd.1, hwf, ⟨by rw [without_nx]; exact Nat.le_refl _, fun id b hb => ?_, fun id n hn => ?_⟩, fun a ha id hid => ?_⟩, fun S' l1' K hdis => ?_⟩
  · rw [without_H] at hb
    split at hb
    · cases hb
    · exact hb
  · rw [without_T] at hn
    split at hn
    · cases hn
    · exact hn
  · have := hmem a ha id hid
    rw [without_H, without_T, if_pos this, if_pos this]; exact ⟨rfl, rfl⟩
  · -- back
    have keepH : ∀ id b, id ∉ ids → S.H.get id = some b → S'.H.get id = some b := fun id b hn hb => K.keeps.H id b (by rw [without_H, if_neg hn]; exact hb)
    have keepT : ∀ id n, id ∉ ids → S.T.get id = some n → S'.T.get id = some n := fun id b hn hb => K.keeps.T id b (by rw [without_T, if_neg hn]; exact hb)
    have hok2 : ∀ a ∈ l2, a.ok S' := fun a ha => by
      have hok := H.ok a (List.mem_append_right _ ha)
      have hn := hnot a ha
      cases a with
      | box id cs => exact keepH _ _ (hn _ (by simp [Asn.fp])) hok
      | obj id k x => exact keepH _ _ (hn _ (by simp [Asn.fp])) hok
      | map id m => exact keepH _ _ (hn _ (by simp [Asn.fp])) hok
      | grow v xs =>
        cases v with
        | tsl ys tok =>
          obtain ⟨h1, h2, h3, h4⟩ := hok
          have h3' := keepT _ _ (hn tok (by simp [Asn.fp])) h3
          refine ⟨h1, h2, h3', ?_⟩
          cases hb : S'.H.get tok with
          | none => rfl
          | some b => have := hdis _ _ hb; rw [h3'] at this; cases this
        | d x => cases x with
          | sl ys t => cases t <;> exact hok
          | _ => exact hok
        | _ => exact hok
      | row sz v xs =>
        cases v with
        | msl id g off len lim sz' =>
          obtain ⟨h1, h2, h3, h4, h5, h6, cs, h7, h8⟩ := hok
          exact ⟨h1, h2, h3, h4, h5, h6, cs, h7, keepH _ _ (hn id (by simp [Asn.fp])) h8⟩
        | d x => cases x with
          | sl ys t => cases ys <;> cases t <;> exact hok
          | _ => exact hok
        | _ => exact hok
    refine ⟨K.wf, fun a ha => ?_, ?_, H.bwf, ⟨?_, fun id b hb => ?_, fun id n hn => ?_⟩, fun a ha id hid => ?_⟩
    · rcases List.mem_append.1 ha with ha | ha
      · exact K.ok a ha
      · exact hok2 a ha
    · rw [List.map_append, List.flatten_append, List.nodup_append]
      refine ⟨K.nd, hnd.2.1, fun a ha b hb hab => ?_⟩
      subst hab
      obtain ⟨fps, h1, h2⟩ := List.mem_flatten.1 ha
      obtain ⟨x, hx, rfl⟩ := List.mem_map.1 h1
      obtain ⟨fps, h3, h4⟩ := List.mem_flatten.1 hb
      obtain ⟨y, hy, rfl⟩ := List.mem_map.1 h3
      obtain ⟨o1, o2⟩ := K.out x hx a h2
      have hn := hnot y hy a h4
      rw [without_H, if_neg hn] at o1
      rw [without_T, if_neg hn] at o2
      rcases Asn.there (H.ok y (List.mem_append_right _ hy)) a h4 with q | q
      · exact q o1
      · exact q o2
    · have := K.keeps.nx
      rw [without_nx] at this
      exact Nat.le_trans H.keeps.nx this
    · exact keepH id b (fun q => by rw [(hBids id q).1] at hb; cases hb) (H.keeps.H id b hb)
    · exact keepT id n (fun q => by rw [(hBids id q).2] at hn; cases hn) (H.keeps.T id n hn)
    · rcases List.mem_append.1 ha with ha | ha
      · obtain ⟨o1, o2⟩ := K.out a ha id hid
        by_cases hq : id ∈ ids
        · exact hBids id hq
        · rw [without_H, if_neg hq] at o1
          rw [without_T, if_neg hq] at o2
          refine ⟨?_, ?_⟩
          · cases hb : B.H.get id with
            | none => rfl
            | some b => have := H.keeps.H _ _ hb; rw [o1] at this; cases this
          · cases hb : B.T.get id with
            | none => rfl
            | some b => have := H.keeps.T _ _ hb; rw [o2] at this; cases this
      · exact H.out a (List.mem_append_right _ ha) id hid

theorem EndOk.weakS {cx : Cx} {S2 S : St} {w : World} {p : Option AV} {v : AV} {e : Ending} (k : WeakS S2 S) (h : EndOk cx S w p v e) : EndOk cx S2 w p v e := by
  cases p with
  | none => obtain ⟨u, h1, h2⟩ := h; exact ⟨u, h1, h2.weakS k⟩
  | some p => obtain ⟨u, h1, h2⟩ := h; exact ⟨u, h1, h2.weakS k⟩
theorem Ext.weakOut {cx cx' : Cx} {S S' S2 : St} {w w' : World} (k : WeakS S2 S') (e : Ext cx S w cx' S' w') : Ext cx S w cx' S2 w' where
  size := e.size
  os := e.os
  tape := e.tape
  output := e.output
  nx := by rw [k.nx]; exact e.nx
  prot := e.prot
  other := fun b hb hn => e.other b hb (fun id hl hf => by
    obtain ⟨h1, g, h2, h3⟩ := hn id hl hf
    exact ⟨h1, g, h2, k.isIt.1 h3⟩)
  own := fun id b hl hf => e.own id b (k.live.1 hl) hf
  back := fun id g hid h => e.back id g hid (k.isIt.1 h)
  keep := fun id g b hid h0 h hf => e.keep id g b hid h0 (k.isIt.1 h) hf
  curs := fun id g hid hc => e.curs id g hid (by rw [← k.cur]; exact hc)
theorem SpecF.weakOut {f : Nat} {args : List AV} {S : St} {Q : Out → Prop} (h : SpecF R P f args S (fun o => ∃ S2, WeakS S2 o.2.2 ∧ Q (o.1, o.2.1, S2))) : SpecF R P f args S Q :=
  ⟨h.1, fun cx w us h1 h2 h3 => (h.2 cx w us h1 h2 h3).mono fun e w' ⟨r, ⟨S2, k, q⟩, cx', m1, m2, m3⟩ => ⟨_, q, cx', m1.weakS k, m2.weakOut k, m3.weakS k⟩⟩

/-- What a call comes to that is handed some of what one has. -/
def SpecM (R : ObjR) (P : Program) (f : Nat) (args : List AV) (ins : List Asn) (res : AV → List Asn → Prop) : Prop :=
  ∀ B S, Has B S ins → SpecF R P f args S (fun o => o.1 = none ∧ ∃ v l, Less v o.2.1 ∧ res v l ∧ Has B o.2.2 l)

section
variable {C : Cfg} {nt : Nat}
theorem SpecM.of_wp {f : Nat} {fn : Func} {c : Code} (hf : C.P.funcs[f]? = some fn) (hc : fn.body = some c) (hn : (fn.name == "runtime.NumGoroutine") = false) {args : List AV} (hle : Nat.ble args.length fn.ntmps = true) {ins : List Asn} {res : AV → List Asn → Prop}
    (h : ∀ B S, Has B S ins → WpC R C.P fn.ntmps c (enterE 0 args) S (endQ C fn (fun o => o.1 = none ∧ ∃ v l S2, WeakS S2 o.2.2 ∧ Less v o.2.1 ∧ res v l ∧ Has B S2 l))) : SpecM R C.P f args ins res := fun B S hB => by
  refine SpecF.weakOut ((SpecF.of_wp hf hc hn (Nat.le_of_ble_eq_true hle) (h B S hB)).mono fun o ho => ?_)
  obtain ⟨h1, v, l, S2, h2, h3, h4, h5⟩ := ho
  exact ⟨S2, h2, h1, v, l, h3, h4, h5⟩

section steps
variable {ops : Array Oper} {rest : List Oper} {e : Env} {S S' : St} {Q : Stp → Prop} {l l' : List Asn} {t ty : Nat} {p : String} {af : Array Edge} {g : Option (Nat × Bool)} {x y : Operand} {v : AV}
theorem wpO.retM {op : Op} {f : Nat} {args args' : List AV} {ins more : List Asn} {res : AV → List Asn → Prop} (H : Has B S (ins ++ more)) (hw : wantedE ops e { dst := some t, op := op, type := ty, pos := p, after := af, guard := g } = some true) (ho : oper C (evalO e) S op = some (.call f args)) (hs : SpecM R C.P f args' ins res) (ha : LessL args' args) (ht : Nat.blt t nt = true)
    (k : ∀ v S' l', res v l' → Has B S' (l' ++ more) → wpO R C nt ops rest ((t, v) :: e) S' Q) :
    wpO R C nt ops ({ dst := some t, op := op, type := ty, pos := p, after := af, guard := g } :: rest) e S Q := by
  obtain ⟨B', h1, h2⟩ := H.frame
  refine wpO.one hw (.inr (.inr (.inl ⟨f, args, ho, ((hs B' S h1).argsL ha).dis.mono fun r hr => ?_⟩)))
  obtain ⟨p, w, S'⟩ := r
  obtain ⟨⟨q1, v, l', q2, q3, q4⟩, hd⟩ := hr
  simp only at q1 q2 q3 q4 hd
  subst q1
  exact ⟨_, by simp only [Env.put, ht, cond_true], wpO.weak (WeakE.top q2) (k v S' l' q3 (h2 S' l' q4 hd))⟩
end steps
end
end
end Go.Ev


namespace Go.Ev
namespace Pr
set_option linter.unusedVariables false
set_option linter.unusedSimpArgs false
structure Attr where
  Name : Str
  Value : Str
def encAttr (x : Attr) : D := .agg [(.str x.Name), (.str x.Value)]
theorem Attr.eq (x : Attr) : encAttr x = .agg [(.str x.Name), (.str x.Value)] := rfl
theorem Attr.cells (x : Attr) : (encAttr x).cells = [(.str x.Name), (.str x.Value)] := by rw [Attr.eq]; rfl
theorem Attr.cellsA (x : Attr) : (AV.d (encAttr x)).cells = [.d (.str x.Name), .d (.str x.Value)] := by rw [Attr.eq]; rfl
theorem Attr.agg (x : Attr) : (encAttr x).isAgg = true := by rw [Attr.eq]; rfl
theorem Attr.flat (x : Attr) : flatC (encAttr x).cells = true := by rw [Attr.cells]; rfl
theorem Attr.len (x : Attr) : (encAttr x).cells.length = 2 := by rw [Attr.cells]; rfl
theorem Attr.cn (x : Attr) : (encAttr x).cn = encAttr x := by
  rw [Attr.eq]
  exact agg_cn (by
    intro d hd
    simp only [List.mem_cons, List.not_mem_nil, or_false] at hd
    rcases hd with rfl | rfl
    · exact rfl
    · exact rfl)
theorem Attr.partW {P : Program} {t : Nat} {x : Attr} (ha : aggO P t = some true) (hz : szOf P t = 2) : partD P t (encAttr x).cells 0 = some (encAttr x) := by
  rw [Attr.cells, partD_agg ha hz rfl, Attr.eq]; rfl
theorem Attr.inj (x y : Attr) (h : encAttr x = encAttr y) : x = y := by
  obtain ⟨x0, x1⟩ := x
  obtain ⟨y0, y1⟩ := y
  rw [Attr.eq, Attr.eq] at h
  have h := D.agg.inj h
  obtain ⟨h0, h⟩ := List.cons.inj h
  obtain ⟨h1, h⟩ := List.cons.inj h
  obtain rfl : x0 = y0 := str_inj _ _ h0
  obtain rfl : x1 = y1 := str_inj _ _ h1
  rfl
def Attr.beq (x y : Attr) : Bool := ((x.Name == y.Name) && ((x.Value == y.Value) && true))
structure Tree0 where
  Tag : Str
  Key : Str
  Text : Str
  Attrs : (List Attr)
def encTree0 (x : Tree0) : D := .agg [(.str x.Tag), (.str x.Key), (.str x.Text), (.sl ((x.Attrs).map encAttr) false), .nils]
theorem Tree0.eq (x : Tree0) : encTree0 x = .agg [(.str x.Tag), (.str x.Key), (.str x.Text), (.sl ((x.Attrs).map encAttr) false), .nils] := rfl
theorem Tree0.cells (x : Tree0) : (encTree0 x).cells = [(.str x.Tag), (.str x.Key), (.str x.Text), (.sl ((x.Attrs).map encAttr) false), .nils] := by rw [Tree0.eq]; rfl
theorem Tree0.cellsA (x : Tree0) : (AV.d (encTree0 x)).cells = [.d (.str x.Tag), .d (.str x.Key), .d (.str x.Text), .d (.sl ((x.Attrs).map encAttr) false), .d .nils] := by rw [Tree0.eq]; rfl
theorem Tree0.agg (x : Tree0) : (encTree0 x).isAgg = true := by rw [Tree0.eq]; rfl
theorem Tree0.flat (x : Tree0) : flatC (encTree0 x).cells = true := by rw [Tree0.cells]; rfl
theorem Tree0.len (x : Tree0) : (encTree0 x).cells.length = 5 := by rw [Tree0.cells]; rfl
theorem Tree0.partW {P : Program} {t : Nat} {x : Tree0} (ha : aggO P t = some true) (hz : szOf P t = 5) : partD P t (encTree0 x).cells 0 = some (encTree0 x) := by
  rw [Tree0.cells, partD_agg ha hz rfl, Tree0.eq]; rfl
inductive Tree where
  | mk (Tag : Str) (Key : Str) (Text : Str) (Attrs : (List Attr)) (Kids : (List Tree))
def Tree.Tag : Tree → Str | .mk x _ _ _ _ => x
def Tree.Key : Tree → Str | .mk _ x _ _ _ => x
def Tree.Text : Tree → Str | .mk _ _ x _ _ => x
def Tree.Attrs : Tree → (List Attr) | .mk _ _ _ x _ => x
def Tree.Kids : Tree → (List Tree) | .mk _ _ _ _ x => x
mutual
def encTree : Tree → D
  | .mk x0 x1 x2 x3 x4 => .agg [(.str x0), (.str x1), (.str x2), (.sl ((x3).map encAttr) false), .sl (encTrees x4) false]
def encTrees : List Tree → List D
  | [] => []
  | x :: l => encTree x :: encTrees l
end
theorem encTrees_map : ∀ (l : List Tree), encTrees l = l.map encTree
  | [] => rfl
  | x :: l => by rw [encTrees, encTrees_map l]; rfl
theorem Tree.eq (x : Tree) : encTree x = .agg [(.str x.Tag), (.str x.Key), (.str x.Text), (.sl ((x.Attrs).map encAttr) false), (.sl ((x.Kids).map encTree) false)] := by
  cases x
  rw [encTree, encTrees_map]
  rfl
theorem Tree.cells (x : Tree) : (encTree x).cells = [(.str x.Tag), (.str x.Key), (.str x.Text), (.sl ((x.Attrs).map encAttr) false), (.sl ((x.Kids).map encTree) false)] := by rw [Tree.eq]; rfl
theorem Tree.cellsA (x : Tree) : (AV.d (encTree x)).cells = [.d (.str x.Tag), .d (.str x.Key), .d (.str x.Text), .d (.sl ((x.Attrs).map encAttr) false), .d (.sl ((x.Kids).map encTree) false)] := by rw [Tree.eq]; rfl
theorem Tree.agg (x : Tree) : (encTree x).isAgg = true := by rw [Tree.eq]; rfl
theorem Tree.flat (x : Tree) : flatC (encTree x).cells = true := by rw [Tree.cells]; rfl
theorem Tree.len (x : Tree) : (encTree x).cells.length = 5 := by rw [Tree.cells]; rfl
mutual
theorem Tree.cn : ∀ (x : Tree), (encTree x).cn = encTree x
  | .mk x0 x1 x2 x3 x4 => by
    rw [encTree]
    exact agg_cn (by
      intro d hd
      simp only [List.mem_cons, List.not_mem_nil, or_false] at hd
      rcases hd with rfl | rfl | rfl | rfl | rfl
      · exact rfl
      · exact rfl
      · exact rfl
      · exact sl_cn Attr.cn _ _
      · exact congrArg (D.sl · false) (Tree.cns x4))
theorem Tree.cns : ∀ (l : List Tree), D.cns (encTrees l) = encTrees l
  | [] => rfl
  | x :: l => by rw [encTrees, D.cns, Tree.cn x, Tree.cns l]
end
theorem Tree.partW {P : Program} {t : Nat} {x : Tree} (ha : aggO P t = some true) (hz : szOf P t = 5) : partD P t (encTree x).cells 0 = some (encTree x) := by
  rw [Tree.cells, partD_agg ha hz rfl, Tree.eq]; rfl
structure K_Wood where
  Under : (List Int)
  Kinds : (List Int)
  Keys : (List Int)
  Texts : (List Int)
def encK_Wood (x : K_Wood) : D := .agg [(.sl ((x.Under).map (D.int .i64)) false), (.sl ((x.Kinds).map (D.int .i64)) false), (.sl ((x.Keys).map (D.int .i64)) false), (.sl ((x.Texts).map (D.int .i64)) false)]
theorem K_Wood.eq (x : K_Wood) : encK_Wood x = .agg [(.sl ((x.Under).map (D.int .i64)) false), (.sl ((x.Kinds).map (D.int .i64)) false), (.sl ((x.Keys).map (D.int .i64)) false), (.sl ((x.Texts).map (D.int .i64)) false)] := rfl
theorem K_Wood.cells (x : K_Wood) : (encK_Wood x).cells = [(.sl ((x.Under).map (D.int .i64)) false), (.sl ((x.Kinds).map (D.int .i64)) false), (.sl ((x.Keys).map (D.int .i64)) false), (.sl ((x.Texts).map (D.int .i64)) false)] := by rw [K_Wood.eq]; rfl
theorem K_Wood.cellsA (x : K_Wood) : (AV.d (encK_Wood x)).cells = [.d (.sl ((x.Under).map (D.int .i64)) false), .d (.sl ((x.Kinds).map (D.int .i64)) false), .d (.sl ((x.Keys).map (D.int .i64)) false), .d (.sl ((x.Texts).map (D.int .i64)) false)] := by rw [K_Wood.eq]; rfl
theorem K_Wood.agg (x : K_Wood) : (encK_Wood x).isAgg = true := by rw [K_Wood.eq]; rfl
theorem K_Wood.flat (x : K_Wood) : flatC (encK_Wood x).cells = true := by rw [K_Wood.cells]; rfl
theorem K_Wood.len (x : K_Wood) : (encK_Wood x).cells.length = 4 := by rw [K_Wood.cells]; rfl
theorem K_Wood.cn (x : K_Wood) : (encK_Wood x).cn = encK_Wood x := by
  rw [K_Wood.eq]
  exact agg_cn (by
    intro d hd
    simp only [List.mem_cons, List.not_mem_nil, or_false] at hd
    rcases hd with rfl | rfl | rfl | rfl
    · exact sl_cn (fun _ => rfl) _ _
    · exact sl_cn (fun _ => rfl) _ _
    · exact sl_cn (fun _ => rfl) _ _
    · exact sl_cn (fun _ => rfl) _ _)
theorem K_Wood.partW {P : Program} {t : Nat} {x : K_Wood} (ha : aggO P t = some true) (hz : szOf P t = 4) : partD P t (encK_Wood x).cells 0 = some (encK_Wood x) := by
  rw [K_Wood.cells, partD_agg ha hz rfl, K_Wood.eq]; rfl
theorem K_Wood.inj (x y : K_Wood) (h : encK_Wood x = encK_Wood y) : x = y := by
  obtain ⟨x0, x1, x2, x3⟩ := x
  obtain ⟨y0, y1, y2, y3⟩ := y
  rw [K_Wood.eq, K_Wood.eq] at h
  have h := D.agg.inj h
  obtain ⟨h0, h⟩ := List.cons.inj h
  obtain ⟨h1, h⟩ := List.cons.inj h
  obtain ⟨h2, h⟩ := List.cons.inj h
  obtain ⟨h3, h⟩ := List.cons.inj h
  obtain rfl : x0 = y0 := (sl_inj int_inj) _ _ h0
  obtain rfl : x1 = y1 := (sl_inj int_inj) _ _ h1
  obtain rfl : x2 = y2 := (sl_inj int_inj) _ _ h2
  obtain rfl : x3 = y3 := (sl_inj int_inj) _ _ h3
  rfl
def porticolaw13_ShapeRuns (n : Nat) : Option Bool := some true
def porticobook_Within_j8 (a2 : Int) (x7 : Int) : Option Int :=
  (some (IntKind.wrap .i64 (a2 + x7)))
def porticobook_Within (n : Nat) (a1 : Int) (a2 : Int) (a3 : Int) : Option Int :=
  ((remI .i64 a1 (IntKind.wrap .i64 ((IntKind.wrap .i64 (a3 - a2)) + 1))).bind fun z4 => (if (decide (z4 < 0)) = true then (porticobook_Within_j8 a2 ((IntKind.wrap .i64 ((IntKind.wrap .i64 ((IntKind.wrap .i64 (z4 + a3)) - a2)) + 1)))) else (porticobook_Within_j8 a2 (z4))))
def porticokeep_Words (n : Nat)  : Option (List Str) :=
  (some [[97], [98], [105, 116, 101, 109], [120, 32, 121], [37], [97, 47, 98], [46, 46], [122], [49], [108, 105, 115, 116], [255], [63, 61, 38]])
def porticokeep_pick (n : Nat) (a1 : (List Int)) (a2 : Int) : Option Int :=
  (if (((a1).length : Int) == 0) = true then (some 0) else ((remI .i64 a2 ((a1).length : Int)).bind fun z4 => ((idx a1 z4).bind fun z5 => (some z5))))
def porticokeep_deep_l13 (a1 : (List Int)) : Nat → Int → Int → Option Int
  | 0, _, _ => none
  | k13 + 1, x11, x12 =>
    (if ((decide (0 ≤ x11)) && (decide (x12 < 99))) = true then ((idx a1 x11).bind fun z16 => ((porticokeep_deep_l13 a1 k13) (z16) ((IntKind.wrap .i64 (x12 + 1))))) else (some x12))
def porticokeep_deep (n : Nat) (a1 : (List Int)) (a2 : Int) : Option Int :=
  (porticokeep_deep_l13 a1 n (a2) (0))
def porticokeep_grow_j31 (x24 : Int) (again25 : (List Tree) → Int → Option Tree) (x29 : (List Tree)) : Option Tree :=
  (again25 (x29) ((IntKind.wrap .i64 (x24 + 1))))
def porticokeep_grow_l25 (self : (List Tree0) → (List Int) → Int → Option Tree) (a1 : (List Tree0)) (a2 : (List Int)) (a3 : Int) (z7 : Tree0) : Nat → (List Tree) → Int → Option Tree
  | 0, _, _ => none
  | k25 + 1, x22, x24 =>
    (if (decide (x24 < ((a1).length : Int))) = true then ((idx a2 x24).bind fun z32 => (if (z32 == a3) = true then ((self a1 a2 x24).bind fun z34 => ((app 96 x22 [z34]).bind fun z35 => (porticokeep_grow_j31 x24 (porticokeep_grow_l25 self a1 a2 a3 z7 k25) (z35)))) else (porticokeep_grow_j31 x24 (porticokeep_grow_l25 self a1 a2 a3 z7 k25) (x22)))) else (some (Tree.mk z7.Tag z7.Key z7.Text z7.Attrs x22)))
def porticokeep_grow : Nat → (List Tree0) → (List Int) → Int → Option Tree
  | 0, _, _, _ => none
  | n + 1, a1, a2, a3 =>
    ((idx a1 a3).bind fun z7 => (porticokeep_grow_l25 (porticokeep_grow n) a1 a2 a3 z7 n ([]) (0)))
def porticokeep_Wood_Tree_j52 (x20 : (List Tree0)) (x22 : (List Int)) (x24 : Int) (again25 : (List Tree0) → (List Int) → Int → Option Tree) (x44 : Str) (x45 : Str) (x46 : Str) (x47 : (List Attr)) (x51 : Int) : Option Tree :=
  ((app 96 x20 [(Tree0.mk x44 x45 x46 x47)]).bind fun z53 => ((app 8 x22 [x51]).bind fun z57 => (again25 (z53) (z57) ((IntKind.wrap .i64 (x24 + 1))))))
def porticokeep_Wood_Tree_j48 (n : Nat) (x20 : (List Tree0)) (x22 : (List Int)) (x24 : Int) (again25 : (List Tree0) → (List Int) → Int → Option Tree) (x32 : Int) (x44 : Str) (x45 : Str) (x46 : Str) (x47 : (List Attr)) : Option Tree :=
  ((porticokeep_deep n x22 x32).bind fun z61 => (if (decide (6 < z61)) = true then (porticokeep_Wood_Tree_j52 x20 x22 x24 again25 x44 x45 x46 x47 (0)) else (porticokeep_Wood_Tree_j52 x20 x22 x24 again25 x44 x45 x46 x47 (x32))))
def porticokeep_Wood_Tree_j72 (n : Nat) (a1 : K_Wood) (z8 : (List Str)) (x20 : (List Tree0)) (x22 : (List Int)) (x24 : Int) (again25 : (List Tree0) → (List Int) → Int → Option Tree) (x32 : Int) (z66 : Str) (x71 : Str) : Option Tree :=
  ((porticokeep_pick n a1.Texts x24).bind fun z73 => (if ((andI .i64 z73 1) == 1) = true then ((porticokeep_pick n a1.Texts (IntKind.wrap .i64 (x24 + 1))).bind fun z75 => ((porticobook_Within n z75 0 (IntKind.wrap .i64 (((z8).length : Int) - 1))).bind fun z76 => ((idx z8 z76).bind fun z77 => (porticokeep_Wood_Tree_j48 n x20 x22 x24 again25 x32 ((Tree0.mk z66 [] [] []).Tag) (x71) ((Tree0.mk z66 [] [] []).Text) ([(Attr.mk [120] z77)]))))) else (porticokeep_Wood_Tree_j48 n x20 x22 x24 again25 x32 ((Tree0.mk z66 [] [] []).Tag) (x71) ((Tree0.mk z66 [] [] []).Text) ((Tree0.mk z66 [] [] []).Attrs))))
def porticokeep_Wood_Tree_j33 (n : Nat) (a1 : K_Wood) (z8 : (List Str)) (x20 : (List Tree0)) (x22 : (List Int)) (x24 : Int) (again25 : (List Tree0) → (List Int) → Int → Option Tree) (x32 : Int) : Option Tree :=
  ((porticokeep_pick n a1.Texts x24).bind fun z34 => ((porticobook_Within n z34 0 (IntKind.wrap .i64 (((z8).length : Int) - 1))).bind fun z35 => ((idx z8 z35).bind fun z36 => ((porticokeep_pick n a1.Kinds x24).bind fun z63 => ((porticobook_Within n z63 0 5).bind fun z64 => (if (decide (z64 < 4)) = true then ((idx [[97], [98], [108, 105], [111, 117, 116, 108, 101, 116]] z64).bind fun z66 => ((porticokeep_pick n a1.Keys x24).bind fun z83 => ((porticobook_Within n z83 0 6).bind fun z84 => (if (decide (z84 < 4)) = true then (porticokeep_Wood_Tree_j72 n a1 z8 x20 x22 x24 again25 x32 z66 ((([(IntKind.wrap .u8 (IntKind.wrap .i64 (48 + z84)))]).map fun (n : Int) => UInt8.ofNat n.toNat))) else (porticokeep_Wood_Tree_j72 n a1 z8 x20 x22 x24 again25 x32 z66 ((Tree0.mk z66 [] [] []).Key)))))) else (porticokeep_Wood_Tree_j48 n x20 x22 x24 again25 x32 ((Tree0.mk [] [] z36 []).Tag) ((Tree0.mk [] [] z36 []).Key) ((Tree0.mk [] [] z36 []).Text) ((Tree0.mk [] [] z36 []).Attrs))))))))
def porticokeep_Wood_Tree_l25 (n : Nat) (a1 : K_Wood) (z8 : (List Str)) : Nat → (List Tree0) → (List Int) → Int → Option Tree
  | 0, _, _, _ => none
  | k25 + 1, x20, x22, x24 =>
    (if ((decide (x24 < ((a1.Under).length : Int))) && (decide (x24 < 12))) = true then ((idx a1.Under x24).bind fun z28 => ((porticobook_Within n z28 0 (IntKind.wrap .i64 (((x20).length : Int) - 1))).bind fun z29 => ((idx x20 z29).bind fun z88 => (if (z88.Tag == []) = true then (porticokeep_Wood_Tree_j33 n a1 z8 x20 x22 x24 (porticokeep_Wood_Tree_l25 n a1 z8 k25) (0)) else (porticokeep_Wood_Tree_j33 n a1 z8 x20 x22 x24 (porticokeep_Wood_Tree_l25 n a1 z8 k25) (z29)))))) else ((porticokeep_grow n x20 x22 0).bind fun z90 => (some z90)))
def porticokeep_Wood_Tree (n : Nat) (a1 : K_Wood) : Option Tree :=
  ((porticokeep_Words n).bind fun z8 => (porticokeep_Wood_Tree_l25 n a1 z8 n ([(Tree0.mk [100, 105, 118] [] [] [])]) ([(-1)]) (0)))
def porticobook_Same_api_Attr_l12 (a1 : (List Attr)) (a2 : (List Attr)) : Nat → Int → Option Bool
  | 0, _ => none
  | k12 + 1, x11 =>
    (if (decide (x11 < ((a1).length : Int))) = true then ((idx a1 x11).bind fun z14 => ((idx a2 x11).bind fun z15 => (if (!(Attr.beq z14 z15)) = true then (some false) else ((porticobook_Same_api_Attr_l12 a1 a2 k12) ((IntKind.wrap .i64 (x11 + 1))))))) else (some true))
def porticobook_Same_api_Attr (n : Nat) (a1 : (List Attr)) (a2 : (List Attr)) : Option Bool :=
  (if (((a1).length : Int) != ((a2).length : Int)) = true then (some false) else (porticobook_Same_api_Attr_l12 a1 a2 n (0)))
def porticokeep_Trees_l24 (self : Tree → Tree → Option Bool) (a1 : Tree) (a2 : Tree) : Nat → Int → Option Bool
  | 0, _ => none
  | k24 + 1, x23 =>
    (if (decide (x23 < ((a1.Kids).length : Int))) = true then ((idx a1.Kids x23).bind fun z26 => ((idx a2.Kids x23).bind fun z27 => ((self z26 z27).bind fun z28 => (if (!z28) = true then (some false) else ((porticokeep_Trees_l24 self a1 a2 k24) ((IntKind.wrap .i64 (x23 + 1)))))))) else (some true))
def porticokeep_Trees : Nat → Tree → Tree → Option Bool
  | 0, _, _ => none
  | n + 1, a1, a2 =>
    ((if (((!(a1.Tag == a2.Tag)) || (!(a1.Key == a2.Key))) || (!(a1.Text == a2.Text))) = true then some true else ((porticobook_Same_api_Attr n a1.Attrs a2.Attrs).bind fun z11 => (some (!z11)))).bind fun z12 => (if (z12 || (((a1.Kids).length : Int) != ((a2.Kids).length : Int))) = true then (some false) else (porticokeep_Trees_l24 (porticokeep_Trees n) a1 a2 n (0))))
def slices_Clone__api_Attr_api_Attr_ (n : Nat) (a1 : (List Attr)) : Option (List Attr) := app 32 [] a1
def slices_Clone__api_Tree_api_Tree_ (n : Nat) (a1 : (List Tree)) : Option (List Tree) := app 96 [] a1
def shape_Copy_l29 (self : Tree → Option Tree) (a1 : Tree) (z8 : (List Attr)) (z11 : (List Tree)) : Nat → (List Tree) → Int → Option Tree
  | 0, _, _ => none
  | k29 + 1, x27, x28 =>
    (if (decide (x28 < ((z11).length : Int))) = true then ((idx x27 x28).bind fun z31 => ((self z31).bind fun z37 => ((idx x27 x28).bind fun z38 => ((shape_Copy_l29 self a1 z8 z11 k29) ((setI x27 x28 z37)) ((IntKind.wrap .i64 (x28 + 1))))))) else (some (Tree.mk a1.Tag a1.Key a1.Text z8 x27)))
def shape_Copy : Nat → Tree → Option Tree
  | 0, _ => none
  | n + 1, a1 =>
    ((slices_Clone__api_Attr_api_Attr_ n a1.Attrs).bind fun z8 => ((slices_Clone__api_Tree_api_Tree_ n a1.Kids).bind fun z11 => (shape_Copy_l29 (shape_Copy n) a1 z8 z11 n (z11) (0))))
def shape_Count_l15 (self : Tree → Option Int) (a1 : Tree) : Nat → Int → Int → Option Int
  | 0, _, _ => none
  | k15 + 1, x13, x14 =>
    (if (decide (x14 < ((a1.Kids).length : Int))) = true then ((idx a1.Kids x14).bind fun z17 => ((self z17).bind fun z23 => ((shape_Count_l15 self a1 k15) ((IntKind.wrap .i64 (x13 + z23))) ((IntKind.wrap .i64 (x14 + 1)))))) else (some x13))
def shape_Count : Nat → Tree → Option Int
  | 0, _ => none
  | n + 1, a1 =>
    (shape_Count_l15 (shape_Count n) a1 n (1) (0))
def shape_Deep_l15 (self : Tree → Option Int) (a1 : Tree) : Nat → Int → Int → Option Int
  | 0, _, _ => none
  | k15 + 1, x13, x14 =>
    (if (decide (x14 < ((a1.Kids).length : Int))) = true then ((idx a1.Kids x14).bind fun z17 => ((self z17).bind fun z23 => ((shape_Deep_l15 self a1 k15) ((maxI x13 z23)) ((IntKind.wrap .i64 (x14 + 1)))))) else (some (IntKind.wrap .i64 (x13 + 1))))
def shape_Deep : Nat → Tree → Option Int
  | 0, _ => none
  | n + 1, a1 =>
    (shape_Deep_l15 (shape_Deep n) a1 n (0) (0))
def shape_element_1 (n : Nat) (a1 : Attr) (a2 : Attr) : Option Bool :=
  (some (a1.Name == a2.Name))
def slices_IndexFunc__api_Attr_api_Attr__l13 (a1 : (List Attr)) (p2 : Attr → Option Bool) : Nat → Int → Option Int
  | 0, _ => none
  | k13 + 1, x12 =>
    (if (decide (x12 < ((a1).length : Int))) = true then ((idx a1 x12).bind fun z15 => ((p2 z15).bind fun z16 => (if z16 = true then (some x12) else ((slices_IndexFunc__api_Attr_api_Attr__l13 a1 p2 k13) ((IntKind.wrap .i64 (x12 + 1))))))) else (some (-1)))
def slices_IndexFunc__api_Attr_api_Attr_ (n : Nat) (a1 : (List Attr)) (p2 : Attr → Option Bool) : Option Int :=
  (slices_IndexFunc__api_Attr_api_Attr__l13 a1 p2 n (0))
def slices_ContainsFunc__api_Attr_api_Attr_ (n : Nat) (a1 : (List Attr)) (p2 : Attr → Option Bool) : Option Bool :=
  ((slices_IndexFunc__api_Attr_api_Attr_ n a1 p2).bind fun z6 => (some (decide (0 ≤ z6))))
def shape_element_l20 (n : Nat) (a1 : Tree) : Nat → Int → Option Bool
  | 0, _ => none
  | k20 + 1, x19 =>
    (if (decide (x19 < ((a1.Attrs).length : Int))) = true then ((idx a1.Attrs x19).bind fun z22 => ((if (((z22.Name == []) || (decide (64 < ((z22.Name).length : Int)))) || (decide (64 < ((z22.Value).length : Int)))) = true then some true else ((cut a1.Attrs 0 x19).bind fun z30 => ((slices_ContainsFunc__api_Attr_api_Attr_ n z30 (fun y31 => shape_element_1 n y31 z22)).bind fun z32 => (some z32)))).bind fun z31 => (if z31 = true then (some false) else ((shape_element_l20 n a1 k20) ((IntKind.wrap .i64 (x19 + 1))))))) else (some true))
def shape_element (n : Nat) (a1 : Tree) : Option Bool :=
  ((if (decide (16 < ((a1.Tag).length : Int))) = true then some true else ((strings_Trim n a1.Tag [97, 98, 99, 100, 101, 102, 103, 104, 105, 106, 107, 108, 109, 110, 111, 112, 113, 114, 115, 116, 117, 118, 119, 120, 121, 122, 48, 49, 50, 51, 52, 53, 54, 55, 56, 57]).bind fun z5 => (some (!(z5 == []))))).bind fun z6 => (if (((z6 || (!(a1.Text == []))) || (decide (24 < ((a1.Kids).length : Int)))) || (decide (64 < ((a1.Key).length : Int)))) = true then (some false) else (shape_element_l20 n a1 n (0))))
def shape_right_l19 (self : Tree → Option Bool) (a1 : Tree) : Nat → Int → Option Bool
  | 0, _ => none
  | k19 + 1, x18 =>
    (if (decide (x18 < ((a1.Kids).length : Int))) = true then ((idx a1.Kids x18).bind fun z21 => ((self z21).bind fun z27 => (if (!z27) = true then (some false) else ((shape_right_l19 self a1 k19) ((IntKind.wrap .i64 (x18 + 1))))))) else (some true))
def shape_right : Nat → Tree → Option Bool
  | 0, _ => none
  | n + 1, a1 =>
    (if (a1.Tag == []) = true then (some ((((a1.Key == []) && (((a1.Attrs).length : Int) == 0)) && (((a1.Kids).length : Int) == 0)) && (decide (((a1.Text).length : Int) ≤ 64)))) else ((shape_element n a1).bind fun z9 => (if (!z9) = true then (some false) else (shape_right_l19 (shape_right n) a1 n (0)))))
def shape_Right (n : Nat) (a1 : Tree) : Option Bool :=
  ((shape_right n a1).bind fun z5 => ((if z5 = true then ((shape_Count n a1).bind fun z6 => (some (decide (z6 ≤ 60)))) else some false).bind fun z7 => ((if z7 = true then ((shape_Deep n a1).bind fun z9 => (some (decide (z9 ≤ 12)))) else some false).bind fun z10 => (some z10))))
def shape_said_j23 (a1 : Str) (x17 : Int) (again18 : Str → Int → Option Str) (x22 : Str) : Option Str :=
  ((idx a1 x17).bind fun z24 => ((bldB x22 (z24.toNat : Int)).bind fun z27 => (again18 (z27) ((IntKind.wrap .i64 (x17 + 1))))))
def shape_said_l18 (a1 : Str) : Nat → Str → Int → Option Str
  | 0, _, _ => none
  | k18 + 1, x16, x17 =>
    (if (decide (x17 < ((a1).length : Int))) = true then ((idx a1 x17).bind fun z28 => ((if ((z28.toNat : Int) == 34) = true then some true else ((idx a1 x17).bind fun z29 => (some ((z29.toNat : Int) == 92)))).bind fun z30 => (if z30 = true then ((bldB x16 92).bind fun z35 => (shape_said_j23 a1 x17 (shape_said_l18 a1 k18) (z35))) else (shape_said_j23 a1 x17 (shape_said_l18 a1 k18) (x16))))) else ((bldB x16 34).bind fun z38 => (some z38)))
def shape_said (n : Nat) (a1 : Str) : Option Str :=
  ((bldB [] 34).bind fun z7 => (shape_said_l18 a1 n (z7) (0)))
def shape_render1_l61 (self : Str → Tree → Option Str) (a3 : Tree) : Nat → Str → Int → Option Str
  | 0, _, _ => none
  | k61 + 1, x59, x60 =>
    (if (decide (x60 < ((a3.Kids).length : Int))) = true then ((idx a3.Kids x60).bind fun z63 => ((self x59 z63).bind fun z69 => ((shape_render1_l61 self a3 k61) (z69) ((IntKind.wrap .i64 (x60 + 1)))))) else ((bldS x59 [60, 47, 62]).bind fun z74 => (some z74)))
def shape_render1_l30 (n : Nat) (self : Str → Tree → Option Str) (a3 : Tree) : Nat → Str → Int → Option Str
  | 0, _, _ => none
  | k30 + 1, x28, x29 =>
    (if (decide (x29 < ((a3.Attrs).length : Int))) = true then ((idx a3.Attrs x29).bind fun z32 => ((shape_said n z32.Name).bind fun z38 => ((cat [32] z38).bind fun z39 => ((cat z39 [61]).bind fun z40 => ((shape_said n z32.Value).bind fun z41 => ((cat z40 z41).bind fun z42 => ((bldS x28 z42).bind fun z45 => ((shape_render1_l30 n self a3 k30) (z45) ((IntKind.wrap .i64 (x29 + 1))))))))))) else ((bldB x28 62).bind fun z50 => (shape_render1_l61 self a3 n (z50) (0))))
def shape_render1_j19 (n : Nat) (self : Str → Tree → Option Str) (a3 : Tree) (x18 : Str) : Option Str :=
  (shape_render1_l30 n self a3 n (x18) (0))
def shape_render1 : Nat → Str → Tree → Option Str
  | 0, _, _ => none
  | n + 1, a2, a3 =>
    (if (a3.Tag == []) = true then ((shape_said n a3.Text).bind fun z8 => ((bldS a2 z8).bind fun z11 => (some z11))) else ((cat [60] a3.Tag).bind fun z12 => ((bldS a2 z12).bind fun z15 => (if (!(a3.Key == [])) = true then ((shape_said n a3.Key).bind fun z76 => ((cat [35] z76).bind fun z77 => ((bldS z15 z77).bind fun z80 => (shape_render1_j19 n (shape_render1 n) a3 (z80))))) else (shape_render1_j19 n (shape_render1 n) a3 (z15))))))
def shape_Print (n : Nat) (a1 : Tree) : Option Str :=
  ((shape_Right n a1).bind fun z5 => (if (!z5) = true then (some []) else ((shape_render1 n [] a1).bind fun z10 => (some z10))))
def porticolaw13_ShapePrints_j85 (n : Nat) (x80 : Str) (x81 : Str) (x82 : Str) (x83 : (List Attr)) (x84 : (List Tree)) : Option Bool :=
  ((shape_Right n (Tree.mk x80 x81 x82 x83 x84)).bind fun z86 => ((if (!z86) = true then ((shape_Print n (Tree.mk x80 x81 x82 x83 x84)).bind fun z87 => (some (z87 == []))) else some false).bind fun z88 => ((if z88 = true then ((porticolaw13_ShapeRuns n).bind fun z90 => (some z90)) else some false).bind fun z91 => (some z91))))
def porticolaw13_ShapePrints_l146 (n : Nat) (z65 : Int) : Nat → Str → Str → Str → (List Attr) → (List Tree) → Int → Option Bool
  | 0, _, _, _, _, _, _ => none
  | k146 + 1, x139, x140, x141, x142, x143, x145 =>
    (if (decide (x145 < (IntKind.wrap .i64 (12 + (IntKind.wrap .i64 (1 + z65)))))) = true then ((porticolaw13_ShapePrints_l146 n z65 k146) ([97]) ([]) ([]) ([]) ([(Tree.mk x139 x140 x141 x142 x143)]) ((IntKind.wrap .i64 (x145 + 1)))) else (porticolaw13_ShapePrints_j85 n (x139) (x140) (x141) (x142) (x143)))
def porticolaw13_ShapePrints_l48 (n : Nat) (a3 : Int) (a4 : Int) (z12 : Tree) (z31 : Str) : Nat → Str → Int → Option Bool
  | 0, _, _ => none
  | k48 + 1, x46, x47 =>
    (if (decide (x47 < ((z12.Kids).length : Int))) = true then ((idx z12.Kids x47).bind fun z50 => ((shape_Print n z50).bind fun z56 => ((cat x46 z56).bind fun z57 => ((porticolaw13_ShapePrints_l48 n a3 a4 z12 z31 k48) (z57) ((IntKind.wrap .i64 (x47 + 1))))))) else ((if (!(z12.Tag == [])) = true then ((if (decide (((z31).length : Int) < (IntKind.wrap .i64 (((x46).length : Int) + 3)))) = true then some true else ((cut z31 (IntKind.wrap .i64 ((IntKind.wrap .i64 (((z31).length : Int) - 3)) - ((x46).length : Int))) ((z31).length : Int)).bind fun z58 => ((cat x46 [60, 47, 62]).bind fun z59 => (some (!(z58 == z59)))))).bind fun z59 => (some z59)) else some false).bind fun z59 => (if z59 = true then (some false) else ((porticobook_Within n a4 0 9).bind fun z65 => ((shape_Copy n z12).bind fun z66 => ((porticobook_Within n a3 0 7).bind fun z93 => (if (z93 == 0) = true then (porticolaw13_ShapePrints_j85 n ([65]) (z66.Key) (z66.Text) (z66.Attrs) (z66.Kids)) else (if (z93 == 1) = true then (porticolaw13_ShapePrints_j85 n ([97]) (z66.Key) ([120]) (z66.Attrs) (z66.Kids)) else (if (z93 == 2) = true then ((mkRow 1 1 (IntKind.wrap .i64 (64 + (IntKind.wrap .i64 (1 + z65)))) 0).bind fun z103 => (porticolaw13_ShapePrints_j85 n ((Tree.mk [] [] ((z103).map fun (n : Int) => UInt8.ofNat n.toNat) [] []).Tag) ((Tree.mk [] [] ((z103).map fun (n : Int) => UInt8.ofNat n.toNat) [] []).Key) ((Tree.mk [] [] ((z103).map fun (n : Int) => UInt8.ofNat n.toNat) [] []).Text) ((Tree.mk [] [] ((z103).map fun (n : Int) => UInt8.ofNat n.toNat) [] []).Attrs) ((Tree.mk [] [] ((z103).map fun (n : Int) => UInt8.ofNat n.toNat) [] []).Kids))) else (if (z93 == 3) = true then (porticolaw13_ShapePrints_j85 n ((Tree.mk [] [107] [] [] []).Tag) ((Tree.mk [] [107] [] [] []).Key) ((Tree.mk [] [107] [] [] []).Text) ((Tree.mk [] [107] [] [] []).Attrs) ((Tree.mk [] [107] [] [] []).Kids)) else (if (z93 == 4) = true then (porticolaw13_ShapePrints_j85 n ((Tree.mk [97] [] [] [(Attr.mk [120] []), (Attr.mk [120] [])] []).Tag) ((Tree.mk [97] [] [] [(Attr.mk [120] []), (Attr.mk [120] [])] []).Key) ((Tree.mk [97] [] [] [(Attr.mk [120] []), (Attr.mk [120] [])] []).Text) ((Tree.mk [97] [] [] [(Attr.mk [120] []), (Attr.mk [120] [])] []).Attrs) ((Tree.mk [97] [] [] [(Attr.mk [120] []), (Attr.mk [120] [])] []).Kids)) else (if (z93 == 5) = true then ((mkRow 5 96 (IntKind.wrap .i64 (24 + (IntKind.wrap .i64 (1 + z65)))) (Tree.mk [] [] [] [] [])).bind fun z116 => (porticolaw13_ShapePrints_j85 n ([97]) ([]) ([]) ([]) (z116))) else (if (z93 == 6) = true then (porticolaw13_ShapePrints_l146 n z65 n (z66.Tag) (z66.Key) (z66.Text) (z66.Attrs) (z66.Kids) (0)) else ((mkRow 5 96 20 (Tree.mk [] [] [] [] [])).bind fun z156 => (porticolaw13_ShapePrints_j85 n ([97]) ([]) ([]) ([]) ([(Tree.mk [97] [] [] [] z156), (Tree.mk [97] [] [] [] z156), (Tree.mk [97] [] [] [] z156)]))))))))))))))))
def porticolaw13_ShapePrints (n : Nat) (a1 : K_Wood) (a2 : K_Wood) (a3 : Int) (a4 : Int) : Option Bool :=
  ((porticokeep_Wood_Tree n a1).bind fun z12 => ((porticokeep_Wood_Tree n a2).bind fun z13 => ((shape_Print n z12).bind fun z31 => ((shape_Print n z13).bind fun z32 => ((if ((z31 == []) || (z32 == [])) = true then some true else ((porticokeep_Trees n z12 z13).bind fun z34 => (some (!((z31 == z32) == z34))))).bind fun z35 => (if z35 = true then (some false) else (porticolaw13_ShapePrints_l48 n a3 a4 z12 z31 n ([]) (0))))))))
end Pr
end Go.Ev


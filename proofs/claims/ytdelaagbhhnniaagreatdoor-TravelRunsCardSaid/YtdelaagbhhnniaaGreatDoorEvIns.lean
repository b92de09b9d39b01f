import Derived.Test.YtdelaagbhhnniaaGreatDoorEvFn
import Derived.Shelf.Spec.SlicesInsertGrow
namespace Go.Ev
open Go.Shelf Go.RowKit Go.Proofs
set_option linter.unusedVariables false
set_option linter.unusedSimpArgs false

theorem setCells_at : ∀ (vs : List Value) (w : World) (b o : Nat) (arr : Array Value) (el : Nat) (fz : Nat × Nat), w.heap[b]? = some (.cells arr el fz) →
    (w.setCells b o vs).heap.size = w.heap.size ∧ (∀ c, c ≠ b → (w.setCells b o vs).heap[c]? = w.heap[c]?) ∧ (w.setCells b o vs).os = w.os ∧ (w.setCells b o vs).tape = w.tape ∧ (w.setCells b o vs).output = w.output ∧
      (w.setCells b o vs).heap[b]? = some (.cells (setAt arr.toList o vs).toArray el fz)
  | [], w, b, o, arr, el, fz, hb => ⟨rfl, fun _ _ => rfl, rfl, rfl, rfl, by simpa [setAt, World.setCells] using hb⟩
  | v :: vs, w, b, o, arr, el, fz, hb => by
    have h1 : (w.setCell ⟨b, o, none⟩ v).heap[b]? = some (.cells (arr.setIfInBounds o v) el fz) := by
      simp [World.setCell, Array.getElem?_modify, hb]
    obtain ⟨a1, a2, a3, a4, a5, a6⟩ := setCells_at vs (w.setCell ⟨b, o, none⟩ v) b (o + 1) _ el fz h1
    simp only [World.setCells]
    refine ⟨by rw [a1]; simp [World.setCell], fun c hc => ?_, a3, a4, a5, ?_⟩
    · rw [a2 c hc]
      simp [World.setCell, Array.getElem?_modify, Ne.symm hc]
    · rw [a6]
      simp [setAt]

theorem grown_bounds {w : World} {need old e : Nat} (h : need ≤ 9223372036854775807) : need ≤ grownCap w need old e ∧ grownCap w need old e ≤ 9223372036854775807 := by
  unfold grownCap
  simp only [Question.cut]
  have h2 : (2 : Nat) ^ 63 = 9223372036854775808 := by decide
  have h3 := Nat.mod_lt (w.tape w.drawn (.appendCap need old e)) (show 0 < 2 ^ 63 - need by omega)
  constructor <;> omega

/-- What slices.Insert of numbers leaves: in place, or in a new row. -/
def InsPost (w : World) (b n c i m : Nat) (arr : Array Value) (el e3 : Nat) (cs vs : List Value) (e : Ending) (w' : World) : Prop :=
  (w'.os = w.os ∧ w'.tape = w.tape ∧ w'.output = w.output) ∧
  ((n + m ≤ c ∧ e = .returned (.slice (some ⟨b, 0, none⟩) (n + m) c) ∧ w'.heap.size = w.heap.size ∧ (∀ d, d ≠ b → w'.heap[d]? = w.heap[d]?) ∧
      ∃ arr', w'.heap[b]? = some (.cells arr' el (0, 0)) ∧ arr'.size = arr.size ∧ ∀ (j : Nat) (v : Value), (cs.take i ++ vs ++ cs.drop i)[j]? = some v → arr'[j]? = some v) ∨
   (∃ nc arr', n + m ≤ nc ∧ nc ≤ 9223372036854775807 ∧ e = .returned (.slice (some ⟨w.heap.size, 0, none⟩) (n + m) nc) ∧ w'.heap.size = w.heap.size + 1 ∧ (∀ d, d < w.heap.size → w'.heap[d]? = w.heap[d]?) ∧
      w'.heap[w.heap.size]? = some (.cells arr' e3 (0, 0)) ∧ arr'.size = nc ∧ ∀ (j : Nat) (v : Value), (cs.take i ++ vs ++ cs.drop i)[j]? = some v → arr'[j]? = some v))

theorem setAt2_get {α : Type} (l cs vs : List α) (i m n : Nat) (hm : vs.length = m) (hn : cs.length = n) (hi : i ≤ n) (hl : n + m ≤ l.length) (h0 : ∀ (j : Nat) (v : α), j < i → cs[j]? = some v → l[j]? = some v) (j : Nat) (v : α)
    (h : (cs.take i ++ vs ++ cs.drop i)[j]? = some v) : (setAt (setAt l (i + m) (cs.drop i)) i vs)[j]? = some v := by
  have hlt : (cs.take i).length = i := by simp; omega
  have hdl : (cs.drop i).length = n - i := by simp; omega
  rw [setAt_get _ _ _ _ (by rw [setAt_length]; omega)]
  rw [List.getElem?_append, List.length_append, hlt, hm] at h
  by_cases h1 : j < i + m
  · rw [if_pos h1, List.getElem?_append, hlt] at h
    by_cases h2 : j < i
    · rw [if_pos h2, List.getElem?_take, if_pos h2] at h
      rw [if_neg (by omega), setAt_get _ _ _ _ (by omega), if_neg (by omega)]
      exact h0 j v h2 h
    · rw [if_neg h2] at h
      rw [if_pos (by omega)]; exact h
  · rw [if_neg h1] at h
    have h3 : j - (i + m) < (cs.drop i).length := (List.getElem?_eq_some_iff.1 h).1
    rw [if_neg (by omega), setAt_get _ _ _ _ (by omega), if_pos (by omega)]
    exact h

theorem setAt3_get {α : Type} (l cs vs : List α) (i m n : Nat) (hm : vs.length = m) (hn : cs.length = n) (hi : i ≤ n) (hl : n + m ≤ l.length) (h0 : ∀ (j : Nat) (v : α), j < i → cs[j]? = some v → l[j]? = some v) (j : Nat) (v : α)
    (h : (cs.take i ++ vs ++ cs.drop i)[j]? = some v) : (setAt (setAt l i vs) (i + m) (cs.drop i))[j]? = some v := by
  have hlt : (cs.take i).length = i := by simp; omega
  have hdl : (cs.drop i).length = n - i := by simp; omega
  rw [setAt_get _ _ _ _ (by rw [setAt_length]; omega)]
  rw [List.getElem?_append, List.length_append, hlt, hm] at h
  by_cases h1 : j < i + m
  · rw [if_pos h1, List.getElem?_append, hlt] at h
    rw [if_neg (by omega), setAt_get _ _ _ _ (by omega)]
    by_cases h2 : j < i
    · rw [if_pos h2, List.getElem?_take, if_pos h2] at h
      rw [if_neg (by omega)]
      exact h0 j v h2 h
    · rw [if_neg h2] at h
      rw [if_pos (by omega)]; exact h
  · rw [if_neg h1] at h
    have h3 : j - (i + m) < (cs.drop i).length := (List.getElem?_eq_some_iff.1 h).1
    rw [if_pos (by omega)]
    exact h

theorem insert_calls {P : Program} {ρ : Ren} (L : Lays2.n21 P ρ) {w : World} {b n c i vb voff m vc : Nat} {arr arr2 : Array Value} {el el2 : Nat} {cs vs : List Value}
    (hb : w.heap[b]? = some (.cells arr el (0, 0))) (hvb : w.heap[vb]? = some (.cells arr2 el2 (0, 0))) (hne : vb ≠ b) (hi : i ≤ n) (hm : 0 < m) (hnc : n ≤ c) (hca : c ≤ arr.size) (hc63 : c ≤ 9223372036854775807)
    (hbig : (n + m) * 8 ≤ 140737488355328) (hcl : cs.length = n) (hvl : vs.length = m) (hcs : ∀ (j : Nat) (v : Value), cs[j]? = some v → arr[j]? = some v) (hvs : ∀ (j : Nat) (v : Value), vs[j]? = some v → arr2[voff + j]? = some v)
    (h1c : ∀ v ∈ cs, v.oneCell' = true) (h1v : ∀ v ∈ vs, v.oneCell' = true) :
    Calls P (ρ.f 21) #[.slice (some ⟨b, 0, none⟩) n c, .int .i64 i, .slice (some ⟨vb, voff, none⟩) m vc] w (InsPost w b n c i m arr el (ρ.t 3) cs vs) := by
  have hbl : b < w.heap.size := by
    rcases Nat.lt_or_ge b w.heap.size with q | q
    · exact q
    · rw [Array.getElem?_eq_none q] at hb; cases hb
  have gcs : ∀ (j : Nat) (v : Value), cs[j]? = some v → w.cell? ⟨b, 0 + j, none⟩ = some v := fun j v h => by rw [Nat.zero_add, cell_of hb]; exact hcs j v h
  have gvs : ∀ (j : Nat) (v : Value), vs[j]? = some v → w.cell? ⟨vb, voff + j, none⟩ = some v := fun j v h => by rw [cell_of hvb]; exact hvs j v h
  have gsp : ∀ (o j : Nat), o + j < arr.size → (w.cell? ⟨b, o + j, none⟩).isSome = true := fun o j h => by rw [cell_of hb, Array.getElem?_eq_getElem h]; rfl
  have gfz : ∀ (o : Nat), w.frozen? ⟨b, o, none⟩ = false := fun o => by simp [World.frozen?, hb]
  have gfz2 : ∀ (o : Nat), w.frozen? ⟨vb, o, none⟩ = false := fun o => by simp [World.frozen?, hvb]
  have hsb : w.shape? b = some (el, arr.size) := by simp [World.shape?, hb]
  have hsv : w.shape? vb = some (el2, arr2.size) := by simp [World.shape?, hvb]
  by_cases hroom : n + m ≤ c
  · by_cases hin : i < n
    · refine (Proofs.Any2.slices_Insert_int_shift L b 0 n c i vb voff m vc cs vs w hin hm hroom hc63 hne hcl hvl gcs (fun j hj => gsp 0 j (by omega)) (fun j _ => gfz _) gvs h1c h1v el2 el arr2.size arr.size hsv hsb (by omega) (gfz2 _) (gfz2 _)).mono (fun e w' q => ?_)
      obtain ⟨rfl, rfl⟩ := q
      obtain ⟨a1, a2, a3, a4, a5, a6⟩ := setCells_at (cs.drop i) w.drew b (0 + (i + m)) arr el (0, 0) hb
      obtain ⟨b1, b2, b3, b4, b5, b6⟩ := setCells_at vs _ b (0 + i) _ el (0, 0) a6
      simp only [Nat.zero_add] at *
      refine ⟨⟨b3.trans a3, b4.trans a4, b5.trans a5⟩, .inl ⟨hroom, rfl, b1.trans a1, fun d hd => (b2 d hd).trans (a2 d hd), _, b6, by simp [setAt_length], fun j v h => ?_⟩⟩
      simp only [List.getElem?_toArray]
      exact setAt2_get arr.toList cs vs i m n hvl hcl hi (by simp; omega) (fun j v _ h => by simpa using hcs j v h) j v h
    · have hin : i = n := by omega
      subst hin
      refine (Proofs.Any2.slices_Insert_int_end_room L b 0 i c vb voff m vc vs w hm hroom hc63 hvl (fun j hj => by rw [Nat.zero_add]; exact gsp i j (by omega)) (fun j _ => gfz _) gvs h1v).mono (fun e w' q => ?_)
      obtain ⟨rfl, rfl⟩ := q
      obtain ⟨a1, a2, a3, a4, a5, a6⟩ := setCells_at vs w b (0 + i) arr el (0, 0) hb
      simp only [Nat.zero_add] at *
      refine ⟨⟨a3, a4, a5⟩, .inl ⟨hroom, rfl, a1, a2, _, a6, by simp [setAt_length], fun j v h => ?_⟩⟩
      simp only [List.getElem?_toArray]
      have := setAt2_get arr.toList cs vs i m i hvl hcl hi (by simp; omega) (fun j v _ h => by simpa using hcs j v h) j v h
      rw [← hcl, List.drop_length] at this
      rw [← hcl]
      simpa [setAt] using this
  · obtain ⟨g1, g2⟩ := grown_bounds (w := w) (need := n + m) (old := c) (e := ρ.t 3) (by omega)
    by_cases hin : i < n
    · refine (Proofs.Any2.slices_Insert_int_grow L b 0 n c i vb voff m vc cs vs w hin hm hnc (by omega) hbig hcl hvl gcs gvs h1c h1v).mono (fun e w' q => ?_)
      obtain ⟨rfl, rfl⟩ := q
      generalize hrow : (cs.take i).toArray ++ Builtin.zeroCells (Value.int .i64 0).cells (n + m - i) ++ Builtin.zeroCells (Value.int .i64 0).cells (grownCap w (n + m) c (ρ.t 3) - (n + m)) = ROW
      have hrs : ROW.size = grownCap w (n + m) c (ρ.t 3) := by
        rw [← hrow]; simp [zeroCells_size, Value.cells]; omega
      have h0 : (w.alloc (.cells ROW (ρ.t 3))).drew.heap[w.heap.size]? = some (.cells ROW (ρ.t 3) (0, 0)) := heap_alloc_new w _
      obtain ⟨a1, a2, a3, a4, a5, a6⟩ := setCells_at vs (w.alloc (.cells ROW (ρ.t 3))).drew w.heap.size i ROW (ρ.t 3) (0, 0) h0
      obtain ⟨b1, b2, b3, b4, b5, b6⟩ := setCells_at (cs.drop i) (((w.alloc (.cells ROW (ρ.t 3))).drew.setCells w.heap.size i vs).drew) w.heap.size (i + m) _ (ρ.t 3) (0, 0) a6
      refine ⟨⟨b3.trans a3, b4.trans a4, b5.trans a5⟩, .inr ⟨_, _, g1, g2, rfl, ?_, fun d hd => ?_, b6, by simp [setAt_length, hrs], fun j v h => ?_⟩⟩
      · rw [b1]; show ((w.alloc (.cells ROW (ρ.t 3))).drew.setCells w.heap.size i vs).heap.size = _; rw [a1]; show (w.alloc (.cells ROW (ρ.t 3))).heap.size = _; rw [size_alloc]
      · rw [b2 d (by omega)]; show ((w.alloc (.cells ROW (ρ.t 3))).drew.setCells w.heap.size i vs).heap[d]? = _; rw [a2 d (by omega)]; exact heap_alloc_old w _ hd
      · simp only [List.getElem?_toArray]
        refine setAt3_get ROW.toList cs vs i m n hvl hcl hi (by simp [hrs]; omega) (fun j v hj h => ?_) j v h
        rw [← hrow]
        simp only [Array.toList_append, List.append_assoc]
        rw [List.getElem?_append_left (by simp; omega)]
        simpa [List.getElem?_take, hj] using h
    · have hin : i = n := by omega
      subst hin
      refine (Proofs.Any2.slices_Insert_int_end_grow L (some ⟨b, 0, none⟩) i c vb voff m vc cs vs w hm hnc (by omega) hbig hcl hvl (fun q => by cases q) (fun a ha j v h => by cases ha; rw [add_at]; exact gcs j v h) gvs h1v).mono (fun e w' q => ?_)
      obtain ⟨rfl, rfl⟩ := q
      refine ⟨⟨rfl, rfl, rfl⟩, .inr ⟨_, _, g1, g2, rfl, size_alloc w.drew _, fun d hd => heap_alloc_old w.drew _ hd, heap_alloc_new w.drew _, by simp [zeroCells_size, Value.cells, hcl, hvl]; omega, fun j v h => ?_⟩⟩
      rw [← hcl, List.take_length, List.drop_length, List.append_nil] at h
      have hlt := (List.getElem?_eq_some_iff.1 h).1
      rw [Array.getElem?_append_left (by simpa using hlt)]
      simpa using h

theorem insert_nil {P : Program} {ρ : Ren} (L : Lays2.n21 P ρ) {w : World} {vb voff m vc : Nat} {arr2 : Array Value} {el2 : Nat} {vs : List Value}
    (hvb : w.heap[vb]? = some (.cells arr2 el2 (0, 0))) (hm : 0 < m)
    (hbig : m * 8 ≤ 140737488355328) (hvl : vs.length = m) (hvs : ∀ (j : Nat) (v : Value), vs[j]? = some v → arr2[voff + j]? = some v) (h1v : ∀ v ∈ vs, v.oneCell' = true) :
    Calls P (ρ.f 21) #[.slice none 0 0, .int .i64 0, .slice (some ⟨vb, voff, none⟩) m vc] w fun e w' => ∃ nc rest, m ≤ nc ∧ nc ≤ 9223372036854775807 ∧ rest.size = nc - m ∧ e = .returned (.slice (some ⟨w.heap.size, 0, none⟩) m nc) ∧
      w' = w.drew.alloc (.cells (vs.toArray ++ rest) (ρ.t 3)) := by
  obtain ⟨g1, g2⟩ := grown_bounds (w := w) (need := 0 + m) (old := 0) (e := ρ.t 3) (by omega)
  have gvs : ∀ (j : Nat) (v : Value), vs[j]? = some v → w.cell? ⟨vb, voff + j, none⟩ = some v := fun j v h => by rw [cell_of hvb]; exact hvs j v h
  refine (Proofs.Any2.slices_Insert_int_end_grow L none 0 0 vb voff m vc [] vs w hm (Nat.le_refl _) (by omega) (by omega) rfl hvl (fun _ => rfl) (fun a ha => by cases ha) gvs h1v).mono (fun e w' q => ?_)
  obtain ⟨rfl, rfl⟩ := q
  simp only [Nat.zero_add, List.nil_append] at *
  exact ⟨_, _, g1, g2, by simp [zeroCells_size, Value.cells], rfl, rfl⟩

/-- slices.Insert of numbers, onto a row. -/
def insPrim (args : List AV) (S : St) : Option (AV × St) :=
  match args with
  | [.msl id g off len lim sz, .d (.int k i), .msl id2 g2 off2 len2 lim2 sz2] =>
    match S.look id g, S.look id2 g2 with
    | some cs, some vs =>
      if off = 0 ∧ sz = 1 ∧ sz2 = 1 ∧ k = .i64 ∧ id2 ≠ id ∧ 0 ≤ i ∧ i.toNat ≤ len ∧ len ≤ cs.length ∧ 0 < len2 ∧ off2 + len2 ≤ vs.length ∧ (len + len2) * 8 ≤ 140737488355328 then
        some (.msl id (g + 1) 0 (len + len2) (len + len2) 1, { S with H := S.H.set id (.cells (g + 1) ((cs.take len).take i.toNat ++ (vs.drop off2).take len2 ++ (cs.take len).drop i.toNat)) })
      else none
    | _, _ => none
  | [.d .nils, .d (.int k i), .msl id2 g2 off2 len2 lim2 sz2] =>
    match S.look id2 g2 with
    | some vs =>
      if sz2 = 1 ∧ k = .i64 ∧ i = 0 ∧ 0 < len2 ∧ off2 + len2 ≤ vs.length ∧ len2 * 8 ≤ 140737488355328 then
        some (.msl S.nx 0 0 len2 len2 1, (opNew S ((vs.drop off2).take len2)).2)
      else none
    | none => none
  | _ => none

theorem insPrim_sound {R : ObjR} (hR : ObjOk R) {P : Program} {ρ : Ren} (L : Lays2.n21 P ρ) {args : List AV} {S S' : St} {v : AV} (h : insPrim args S = some (v, S')) {cx : Cx} {w : World} {us : List Value} (hS : SRel R cx S w)
    (hl : us.length = args.length) (hr : ∀ (i : Nat) (x : AV) (u : Value), args[i]? = some x → us[i]? = some u → ARel cx S w x u) :
    Calls P (ρ.f 21) us.toArray w (fun e w' => ∃ cx', SRel R cx' S' w' ∧ Ext cx S w cx' S' w' ∧ ∃ u, e = .returned u ∧ ARel cx' S' w' v u) := by
  unfold insPrim at h
  split at h
  · rename_i id g off len lim sz k i id2 g2 off2 len2 lim2 sz2
    split at h
    · rename_i cs vs hlk hlk2
      split at h
      · rename_i hc
        obtain ⟨rfl, rfl, rfl, rfl, hne, hi0, hil, hlc, hm, hov, hbig⟩ := hc
        simp only [Option.some.injEq, Prod.mk.injEq] at h
        obtain ⟨rfl, rfl⟩ := h
        match us, hl with
        | [u0, u1, u2], _ =>
        have r0 := hr 0 _ _ rfl rfl
        have r1 := hr 1 _ _ rfl rfl
        have r2 := hr 2 _ _ rfl rfl
        cases r1 with
        | d _ _ r1 =>
        have a1 := r1.val rfl; cases a1
        have hk := look_some hlk
        have hk2 := look_some hlk2
        have hlive : cur S id = some g := by simp [cur, hk]
        have hlive2 : cur S id2 = some g2 := by simp [cur, hk2]
        cases r0 with
        | msl _ _ _ _ _ _ b cap hn hll hcap h63 hp =>
        cases r2 with
        | msl _ _ _ _ _ _ b2 cap2 hn2 hll2 hcap2 h632 hp2 =>
        obtain ⟨rfl, p2, p3⟩ := hp hlive
        obtain ⟨rfl, q2, q3⟩ := hp2 hlive2
        obtain ⟨c1, c2, arr, el, c3, c4, c5⟩ := hS.cells id g cs hk
        obtain ⟨d1, d2, arr2, el2, d3, d4, d5⟩ := hS.cells id2 g2 vs hk2
        have hbne : cx.bm id2 ≠ cx.bm id := fun q => hne (hS.sep id2 id (cx.bm id) (by simp [live, hlive2]) (by simp [live, hlive]) ((d1 _).2 q.symm) ((c1 _).2 rfl))
        have pc := cells_pw c4.2.2 c5 0 len (by omega)
        have pv := cells_pw d4.2.2 d5 off2 len2 (by omega)
        simp only [List.drop_zero] at pc
        have hcV : (arr.toList.take len).length = len := by simp; have := c4.2.2; omega
        have hvV : ((arr2.toList.drop off2).take len2).length = len2 := by simp; have := d4.2.2; omega
        have pL : Pw (ARel cx S w) ((cs.take len).take i.toNat ++ (vs.drop off2).take len2 ++ (cs.take len).drop i.toNat) ((arr.toList.take len).take i.toNat ++ (arr2.toList.drop off2).take len2 ++ (arr.toList.take len).drop i.toNat) := by
          refine Pw.append (Pw.append ?_ pv) ?_
          · have := pc.seg 0 i.toNat
            simpa using this
          · have := pc.seg i.toNat (len - i.toNat)
            have e1 : ((cs.take len).drop i.toNat).take (len - i.toNat) = (cs.take len).drop i.toNat := List.take_of_length_le (by simp; omega)
            have e2 : ((arr.toList.take len).drop i.toNat).take (len - i.toNat) = (arr.toList.take len).drop i.toNat := List.take_of_length_le (by rw [List.length_drop, hcV]; omega)
            rw [e1, e2] at this
            exact this
        have hLl : ((cs.take len).take i.toNat ++ (vs.drop off2).take len2 ++ (cs.take len).drop i.toNat).length = len + len2 := by simp; omega
        generalize hLL : (cs.take len).take i.toNat ++ (vs.drop off2).take len2 ++ (cs.take len).drop i.toNat = LL at pL hLl ⊢
        generalize hVV : (arr.toList.take len).take i.toNat ++ (arr2.toList.drop off2).take len2 ++ (arr.toList.take len).drop i.toNat = VV at pL
        have hi : (Value.int .i64 i) = .int .i64 ((i.toNat : Nat) : Int) := by rw [Int.toNat_of_nonneg hi0]
        rw [hi]
        have hcurn : cur { S with H := S.H.set id (.cells (g + 1) LL) } id = some (g + 1) := by unfold cur; simp [AL.get_set]
        have hnm : Names { S with H := S.H.set id (.cells (g + 1) LL) } id (g + 1) := ⟨hn.1, fun g' hg => by rw [hcurn] at hg; simp at hg; omega⟩
        refine (insert_calls L (i := i.toNat) (c := cap) (voff := off2) (vc := cap2) c3 d3 hbne hil hm (by omega) (by rw [c4.1]; omega) h63 hbig hcV hvV (fun j v hj => by
          rw [List.getElem?_take] at hj
          split at hj
          · simpa using hj
          · cases hj) (fun j v hj => by
          rw [List.getElem?_take] at hj
          split at hj
          · rw [List.getElem?_drop] at hj; simpa using hj
          · cases hj) (fun v hv => pc.2.1 v hv) (fun v hv => pv.2.1 v hv)).mono (fun e w' hpost => ?_)
        obtain ⟨⟨o1, o2, o3⟩, hpost⟩ := hpost
        rw [hVV] at hpost
        rcases hpost with ⟨hfit, rfl, s1, s2, arr', s3, s4, s5⟩ | ⟨nc, arr', g1, g2, rfl, s1, s2, s3, s4, s5⟩
        · let cx' : Cx := { cx with tsz := fun i => if i = id then len + len2 else cx.tsz i }
          obtain ⟨k1, k2⟩ := blk_sound hR (cx' := cx') (w' := w') (g' := g + 1) (cs' := LL) hS hk (by omega) (by omega) o1 o2 o3 (fun b _ hb => s2 b hb) (fun _ _ => rfl) (fun _ _ _ => Iff.rfl) (fun i hi => by simp [cx', hi]) (fun _ _ => rfl)
            (fun b hb => .inl ((c1 b).1 hb)) (fun b o hf _ => hf) (fun b o hf => hf) (fun b o hf => by rw [s1]; exact hS.lt b o hf) (fun ext => by
            refine ⟨c1, c2, arr', el, s3, ⟨by rw [s4]; exact c4.1, by simp only [cx', if_true]; exact hLl, by rw [hLl, s4, c4.1]; omega⟩, fun j x hx => ?_⟩
            have hlt : j < VV.length := by rw [pL.1]; exact (List.getElem?_eq_some_iff.1 hx).1
            have hu := List.getElem?_eq_getElem hlt
            exact ⟨_, s5 j _ hu, (pL.2.2 j x _ hx hu).mono ext, pL.2.1 _ (List.getElem_mem hlt)⟩)
          exact ⟨cx', k1, k2, _, rfl, .msl id (g + 1) 0 (len + len2) (len + len2) _ _ cap hnm (Nat.le_refl _) hfit h63 (fun _ => ⟨rfl, by simp only [cx', if_true, Nat.zero_add, Nat.mul_one]; exact hfit, p3⟩)⟩
        · let cx' : Cx := { bm := fun i => if i = id then w.heap.size else cx.bm i, fp := fun i b => if i = id then b = w.heap.size else cx.fp i b, tsz := fun i => if i = id then len + len2 else cx.tsz i,
                            tot := fun i => if i = id then nc else cx.tot i, fr := fun b o => b = w.heap.size ∨ cx.fr b o }
          obtain ⟨k1, k2⟩ := blk_sound hR (cx' := cx') (w' := w') (g' := g + 1) (cs' := LL) hS hk (by omega) (by omega) o1 o2 o3
            (fun b hb _ => s2 b hb) (fun i hi => by simp [cx', hi]) (fun i hi b => by simp [cx', hi]) (fun i hi => by simp [cx', hi]) (fun i hi => by simp [cx', hi])
            (fun b hb => .inr (by simp only [cx', if_true] at hb; subst hb; omega))
            (fun b o hf hlt q => q.elim (fun q => absurd q (by omega)) (fun q => hf q)) (fun b o hf => .inr hf) (fun b o q => by rw [s1]; exact q.elim (fun q => by rw [q]; exact Nat.lt_succ_self _) (fun q => Nat.lt_succ_of_lt (hS.lt b o q)))
            (fun ext => by
            refine ⟨fun b => by simp [cx'], fun o => by simp [cx'], arr', _, by simp only [cx', if_true]; exact s3, ⟨by simp only [cx', if_true]; exact s4, by simp only [cx', if_true]; exact hLl, by rw [s4, hLl]; exact g1⟩, fun j x hx => ?_⟩
            have hlt : j < VV.length := by rw [pL.1]; exact (List.getElem?_eq_some_iff.1 hx).1
            have hu := List.getElem?_eq_getElem hlt
            exact ⟨_, s5 j _ hu, (pL.2.2 j x _ hx hu).mono ext, pL.2.1 _ (List.getElem_mem hlt)⟩)
          exact ⟨cx', k1, k2, _, rfl, .msl id (g + 1) 0 (len + len2) (len + len2) _ _ nc hnm (Nat.le_refl _) g1 g2 (fun _ => ⟨by simp [cx'], by simp only [cx', if_true, Nat.zero_add, Nat.mul_one]; exact g1, by simp only [cx', if_true, Nat.zero_add, Nat.mul_one]; exact Nat.le_refl _⟩)⟩
      · cases h
    · cases h
  · rename_i k i id2 g2 off2 len2 lim2 sz2
    split at h
    · rename_i vs hlk2
      split at h
      · rename_i hc
        obtain ⟨rfl, rfl, rfl, hm, hov, hbig⟩ := hc
        simp only [Option.some.injEq, Prod.mk.injEq] at h
        obtain ⟨rfl, rfl⟩ := h
        match us, hl with
        | [u0, u1, u2], _ =>
        have r0 := hr 0 _ _ rfl rfl
        have r1 := hr 1 _ _ rfl rfl
        have r2 := hr 2 _ _ rfl rfl
        cases r0 with
        | d _ _ r0 =>
        cases r1 with
        | d _ _ r1 =>
        have a0 := r0.val rfl; cases a0
        have a1 := r1.val rfl; cases a1
        have hk2 := look_some hlk2
        have hlive2 : cur S id2 = some g2 := by simp [cur, hk2]
        cases r2 with
        | msl _ _ _ _ _ _ b2 cap2 hn2 hll2 hcap2 h632 hp2 =>
        obtain ⟨rfl, q2, q3⟩ := hp2 hlive2
        obtain ⟨d1, d2, arr2, el2, d3, d4, d5⟩ := hS.cells id2 g2 vs hk2
        have pv := cells_pw d4.2.2 d5 off2 len2 (by omega)
        have hvV : ((arr2.toList.drop off2).take len2).length = len2 := by simp; have := d4.2.2; omega
        refine (insert_nil L (voff := off2) (vc := cap2) d3 hm hbig hvV (fun j v hj => by
          rw [List.getElem?_take] at hj
          split at hj
          · rw [List.getElem?_drop] at hj; simpa using hj
          · cases hj) (fun v hv => pv.2.1 v hv)).mono (fun e w' hpost => ?_)
        obtain ⟨nc, rest, g1, g2, g3, rfl, rfl⟩ := hpost
        obtain ⟨hd1, hd2⟩ := drew_sound hR hS
        obtain ⟨cx', k1, k2, k3⟩ := newrow_sound hR hd1 _ _ rest (ρ.t 3) len2 1 nc (pv.mono hd2) (by rw [← pv.1, hvV, Nat.mul_one]) g1 g2 (by rw [g3, Nat.mul_one])
        exact ⟨cx', k1, hd2.trans k2, _, rfl, k3⟩
      · cases h
    · cases h
  · cases h

end Go.Ev

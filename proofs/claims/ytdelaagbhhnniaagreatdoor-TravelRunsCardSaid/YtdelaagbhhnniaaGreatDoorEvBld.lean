import Derived.Test.YtdelaagbhhnniaaGreatDoorEvIns
import Derived.Shelf.Strings.Builder1
namespace Go.Ev
open Go.Shelf Go.RowKit Go.Proofs
set_option linter.unusedVariables false
set_option linter.unusedSimpArgs false

def nullCfg (P : Program) : Cfg := { P := P, good := fun _ => false, rowT := fun _ => false, prim := fun _ _ _ => none, objT := fun _ => none, hasPrim := fun _ => false }

/-- 'append' of cells onto a row of bytes that is owned. -/
theorem app_own {P : Program} {w : World} {t t2 e ty : Nat} {ie : TypeInfo} (hu : P.underlying t = some (.slice e)) (hi : P.info? e = some ie) (hz0 : ie.zero = some (.int .u8 0)) (hz1 : ie.size = 1) (hz2 : ie.bytes = 1)
    (h2 : okSrc (nullCfg P) t2 = true) {v u : Value} {n m : Nat} {xs news : List Value} (hown : w.ownsRow 0 e 1 v n xs)
    (hn : (Builtin.lenOf u).run P w = .ok m w) (hnew : ∀ w', w'.heap = w.heap → (Builtin.firstCells 1 m u).run P w' = .ok news.toArray w') (hl : news.length = m) (h1 : ∀ x ∈ news, x.oneCell' = true) (hb : n + m ≤ bound) :
    ∃ v' w', (Builtin.append_ #[t, t2] ty #[v, u]).run P w = .ok v' w' ∧ w'.ownsRow 0 e 1 v' (n + m) (xs ++ news) ∧ w.grownBy w' v.ownBlock ∧ (v'.ownBlock = v.ownBlock ∨ v'.ownBlock = some w.heap.size) := by
  have hxl : xs.length = n := by have := hown.1; omega
  have hlen : (xs ++ news).length = (n + m) * 1 := by rw [List.length_append, hxl, hl]; omega
  have hmax : maxLen = 9223372036854775807 := by decide
  have grows : ∀ (base : Option Addr) (cap : Nat) (row : Option Nat), n ≤ cap → ¬ n + m ≤ cap → (∀ w', w'.heap = w.heap → (Builtin.firstCells ie.size n (.slice base n cap)).run P w' = .ok xs.toArray w') →
      ∃ v' w', (Builtin.append_ #[t, t2] ty #[.slice base n cap, u]).run P w = .ok v' w' ∧ w'.ownsRow 0 e 1 v' (n + m) (xs ++ news) ∧ w.grownBy w' row ∧ (v'.ownBlock = some w.heap.size) := by
    intro base cap row hnc hroom hold
    obtain ⟨nc, n1, n63, n2⟩ := run_append_grows (C := nullCfg P) (w := w) (ty := ty) (sLen := n) (sCap := cap) (n := m) (base := base) (u := u) hu hi h2 hn hroom (by omega) (by omega) (by rw [hz2, Nat.mul_one]; exact hb) hz0 (hold _ rfl) (by rw [hz1]; exact hnew w.drew rfl)
    refine ⟨_, _, n2, ⟨hlen, .inr ⟨w.heap.size, nc, _, rfl, Nat.zero_le _, heap_alloc_new w.drew _, n1, by omega, ?_, ?_⟩⟩, ⟨rfl, rfl, rfl, by rw [size_alloc]; exact Nat.le_succ _, fun k hk _ => heap_alloc_old w.drew _ hk⟩, rfl⟩
    · simp [zeroCells_size, Value.cells, hxl, hl]; omega
    · have : (n + m) * 1 = (xs ++ news).length := hlen.symm
      rw [this]
      simp only [Array.toList_append, List.append_assoc]
      rw [← List.append_assoc]
      exact List.take_left
  rcases hown.2 with ⟨rfl, rfl⟩ | ⟨g, cap, cur, rfl, _, hg, hnc, hcm, hcs, htake⟩
  · have hxe : xs = [] := List.eq_nil_of_length_eq_zero hxl
    subst hxe
    by_cases hm : m = 0
    · subst hm
      have hne : news = [] := List.eq_nil_of_length_eq_zero hl
      subst hne
      refine ⟨.slice none 0 0, w, ?_, World.ownsRow_nil w 0 e 1, ⟨rfl, rfl, rfl, Nat.le_refl _, fun _ _ _ => rfl⟩, .inl rfl⟩
      exact run_append_fits (C := nullCfg P) (ty := ty) (sLen := 0) (sCap := 0) (n := 0) (base := none) hu hi h2 hn (Nat.le_refl _) (by rw [hz1]; exact hnew w rfl)
    · obtain ⟨v', w', a1, a2, a3, a4⟩ := grows none 0 (Value.ownBlock (.slice none 0 0)) (Nat.le_refl _) (by omega) (fun w' _ => by simp [Builtin.firstCells, loadCells, loadCellsFrom])
      exact ⟨v', w', a1, a2, a3, .inr a4⟩
  · rw [Nat.mul_one] at hcs htake
    by_cases hroom : n + m ≤ cap
    · obtain ⟨w', r1, r2, r3, r4, r5, r6, r7, r8⟩ := storeCells_at (P := P) news w g (n * ie.size) 0 cur e (0, 0) hg h1 (by rw [hz1]; omega) (.inl rfl)
      refine ⟨.slice (some ⟨g, 0, none⟩) (n + m) cap, w', ?_, ⟨hlen, .inr ⟨g, cap, _, rfl, Nat.zero_le _, r8, hroom, hcm, ?_, ?_⟩⟩, ⟨r4, r5, r6, by rw [r2]; exact Nat.le_refl _, fun k _ hk => r3 k (fun q => hk (by rw [q]; rfl))⟩, .inl rfl⟩
      · refine (run_append_fits (C := nullCfg P) (ty := ty) (sLen := n) (sCap := cap) (n := m) (base := some ⟨g, 0, none⟩) hu hi h2 hn hroom (by rw [hz1]; exact hnew w rfl)).trans ?_
        simp only [add_at, Nat.zero_add]
        show ((storeCells ⟨g, n * ie.size, none⟩ news 0).run P w).andThen _ = _
        rw [r1]; rfl
      · simp [setAt_length, hcs]
      · rw [hz1, Nat.mul_one, Nat.mul_one, Nat.add_zero]
        apply List.ext_getElem?
        intro j
        rw [List.getElem?_take, List.getElem?_append, hxl]
        by_cases hj : j < n + m
        · rw [if_pos hj, setAt_get _ _ _ _ (by simp; omega)]
          by_cases hj2 : j < n
          · rw [if_neg (by omega), if_pos hj2, ← htake, List.getElem?_take, if_pos hj2]
          · rw [if_pos (by omega), if_neg hj2]
        · rw [if_neg hj, if_neg (by omega), List.getElem?_eq_none (by omega)]
    · obtain ⟨v', w', a1, a2, a3, a4⟩ := grows (some ⟨g, 0, none⟩) cap (some g) hnc hroom (fun w' hh => by
        have hg' : w'.heap[g]? = some (.cells cur e (0, 0)) := by rw [hh]; exact hg
        have := load_block (P := P) (w := w') (b := g) (o := 0) (n := n * ie.size) hg' (by rw [hz1]; omega)
        rw [hz1, Nat.mul_one, List.drop_zero, htake] at this
        rw [hz1]
        simpa [Builtin.firstCells] using this)
      exact ⟨v', w', a1, a2, a3, .inr a4⟩

theorem wpList_app_own {P : Program} {w : World} {ops : Array Oper} {rest : List Oper} {o : Oper} {a : Act} {Q : Exit → Act → World → Prop} (hgd : o.guard = none) (s x : Operand) (t t2 : TypeId)
    (ho : o.op = .call { callee := .builtin .append, args := #[s, x], argTypes := #[t, t2] })
    (e : TypeId) (ie : TypeInfo) (hu : P.underlying t = some (.slice e)) (hi : P.info? e = some ie) (hz0 : ie.zero = some (.int .u8 0)) (hz1 : ie.size = 1) (hz2 : ie.bytes = 1) (h2 : okSrc (nullCfg P) t2 = true)
    (v : Value) (n : Nat) (xs : List Value) (hs : a.eval s = v) (hown : w.ownsRow 0 e 1 v n xs) (u : Value) (m : Nat) (news : List Value) (hx : a.eval x = u)
    (hn : (Builtin.lenOf u).run P w = .ok m w) (hnew : ∀ w', w'.heap = w.heap → (Builtin.firstCells 1 m u).run P w' = .ok news.toArray w') (hl : news.length = m) (h1 : ∀ y ∈ news, y.oneCell' = true) (hb : n + m ≤ bound)
    (h : ∀ v' w', w'.ownsRow 0 e 1 v' (n + m) (xs ++ news) → w.grownBy w' v.ownBlock → (v'.ownBlock = v.ownBlock ∨ v'.ownBlock = some w.heap.size) → wpList P ops Q rest (a.put o.dst v') w') : wpList P ops Q (o :: rest) a w :=
  wpList_plain hgd fun _ hK => by
    obtain ⟨v', w', hr, a1, a2, a3⟩ := app_own (ty := o.type) hu hi hz0 hz1 hz2 h2 hown hn hnew hl h1 hb
    unfold Oper.wp execOp
    simp only [ho, resolve, invoke, builtin, Sem.run_bind, Sem.run_pure, Result.andThen_ok, List.map_toArray, List.map_cons, List.map_nil, hs, hx, hr]
    exact hK _ _ (h v' w' a1 a2 a3)

/-- What a write leaves of a builder, and of all else. -/
def BldPost (w w' : World) (b : Nat) (v : Value) (xs : List Value) (T e : Nat) : Prop :=
  (w'.os = w.os ∧ w'.tape = w.tape ∧ w'.output = w.output ∧ w.heap.size ≤ w'.heap.size) ∧
  ∃ v', w'.heap[b]? = some (.cells #[.pointer (some ⟨b, 0, none⟩), v'] T (0, 0)) ∧ w'.ownsRow 0 e 1 v' xs.length xs ∧ v'.ownBlock ≠ some b ∧
    (∀ k, k < w.heap.size → k ≠ b → some k ≠ v.ownBlock → w'.heap[k]? = w.heap[k]?) ∧ (∀ g, v'.ownBlock = some g → v.ownBlock = some g ∨ w.heap.size ≤ g)

structure BldAt (T e : Nat) (b : Nat) (p v : Value) (xs : List Value) (w : World) : Prop where
  hp : p = .pointer none ∨ p = .pointer (some ⟨b, 0, none⟩)
  blk : w.heap[b]? = some (.cells #[p, v] T (0, 0))
  own : w.ownsRow 0 e 1 v xs.length xs
  ne : v.ownBlock ≠ some b

/-- Behind copyCheck. -/
theorem bld_check {P : Program} {ρ : Ren} (L : Lays.n240 P ρ) (X : Builder.X72 P ρ) {b : Nat} {p v : Value} {xs : List Value} {w : World} (h : BldAt (ρ.t 72) (ρ.t 5) b p v xs w) :
    Calls P (ρ.f 240) #[.pointer (some ⟨b, 0, none⟩)] w fun e w' => e = .returned (.tuple #[]) ∧ BldAt (ρ.t 72) (ρ.t 5) b (.pointer (some ⟨b, 0, none⟩)) v xs w' ∧
      w'.os = w.os ∧ w'.tape = w.tape ∧ w'.output = w.output ∧ w'.heap.size = w.heap.size ∧ ∀ k, k ≠ b → w'.heap[k]? = w.heap[k]? := by
  obtain ⟨hp, hb, hown, hne⟩ := h
  have hlt : b < w.heap.size := by
    rcases Nat.lt_or_ge b w.heap.size with h' | h'
    · exact h'
    · simp [Array.getElem?_eq_none h'] at hb
  rcases hp with rfl | rfl
  · refine (Any.Builder_copyCheck_fresh L X b w (by rw [Lib.cell_of_heap hb]; rfl) (by simp [World.shape?, hb]) (by simp [World.frozen?, hb])).mono ?_
    rintro e w' ⟨rfl, rfl⟩
    have hoth : ∀ k, k ≠ b → (w.setCell ⟨b, 0, none⟩ (.pointer (some ⟨b, 0, none⟩))).heap[k]? = w.heap[k]? := fun k hk => by simp [World.setCell, Array.getElem?_modify, Ne.symm hk]
    refine ⟨rfl, ⟨.inr rfl, by simp [World.setCell, Array.getElem?_modify, hb], hown.kept (row := some b) ⟨rfl, rfl, rfl, by simp [World.setCell], fun k _ hk => hoth k (fun q => hk (by rw [q]))⟩ (.inr hne), hne⟩, rfl, rfl, rfl, by simp [World.setCell], hoth⟩
  · refine (Any.Builder_copyCheck_used L X b w (by rw [Lib.cell_of_heap hb]; rfl)).mono ?_
    rintro e w' ⟨rfl, rfl⟩
    exact ⟨rfl, ⟨.inr rfl, hb, hown, hne⟩, rfl, rfl, rfl, rfl, fun _ _ => rfl⟩

/-- .. and the store of the new row. -/
theorem bld_put {T e : Nat} {b : Nat} {v v' : Value} {xs xs' : List Value} {w w1 w2 : World} (h1 : BldAt T e b (.pointer (some ⟨b, 0, none⟩)) v xs w1)
    (q1 : w1.os = w.os) (q2 : w1.tape = w.tape) (q3 : w1.output = w.output) (q4 : w1.heap.size = w.heap.size) (q5 : ∀ k, k ≠ b → w1.heap[k]? = w.heap[k]?)
    (hown' : w2.ownsRow 0 e 1 v' xs'.length xs') (hgrow : w1.grownBy w2 v.ownBlock) (hblk : ∀ g, v'.ownBlock = some g → v.ownBlock = some g ∨ w1.heap.size ≤ g) (hTe : T ≠ e) : BldPost w (w2.setCell ⟨b, 1, none⟩ v') b v xs' T e := by
  obtain ⟨hp, hb, hown, hne⟩ := h1
  have hlt : b < w1.heap.size := by
    rcases Nat.lt_or_ge b w1.heap.size with h' | h'
    · exact h'
    · simp [Array.getElem?_eq_none h'] at hb
  have hb2 : w2.heap[b]? = some (.cells #[.pointer (some ⟨b, 0, none⟩), v] T (0, 0)) := by
    rw [hgrow.block b hlt (fun e => hne e.symm)]; exact hb
  have hne' : v'.ownBlock ≠ some b := fun q => by
    rcases hown'.2 with ⟨rfl, _⟩ | ⟨g, cap, cur, rfl, _, hg, _⟩
    · simp [Value.ownBlock] at q
    · simp [Value.ownBlock] at q
      subst q
      rw [hb2] at hg
      simp at hg
      exact hTe hg.2
  have hoth : ∀ k, k ≠ b → (w2.setCell ⟨b, 1, none⟩ v').heap[k]? = w2.heap[k]? := fun k hk => by simp [World.setCell, Array.getElem?_modify, Ne.symm hk]
  refine ⟨⟨hgrow.os.trans q1, hgrow.tape.trans q2, hgrow.output.trans q3, by have := hgrow.size; simp [World.setCell]; omega⟩, v', by simp [World.setCell, Array.getElem?_modify, hb2],
    hown'.kept (row := some b) ⟨rfl, rfl, rfl, by simp [World.setCell], fun k _ hk => hoth k (fun q => hk (by rw [q]))⟩ (.inr hne'), hne', fun k hk hkb hkv => ?_, fun g hg => by rw [← q4]; exact hblk g hg⟩
  rw [hoth k hkb, hgrow.block k (by omega) hkv]
  exact q5 k hkb

set_option maxHeartbeats 2000000 in
set_option maxRecDepth 100000 in
theorem bld_writeByte {P : Program} {ρ : Ren} (L : Lays.n167 P ρ) (X : Builder.Extra P ρ) {b : Nat} {p v : Value} {xs : List Value} {w : World} (h : BldAt (ρ.t 72) (ρ.t 5) b p v xs w) (c : Int) (hlen : xs.length + 1 ≤ bound) :
    Calls P (ρ.f 167) #[.pointer (some ⟨b, 0, none⟩), .int .u8 c] w fun e w' => e = .returned .nilIface ∧ BldPost w w' b v (xs ++ [.int .u8 c]) (ρ.t 72) (ρ.t 5) := by
  obtain ⟨i0, hi, hz0, hz1, hz2⟩ := info_parts X.infoByte
  have mixed := L.mixed
  have t72 := L.t72; have a72 := L.a72; have z72 := L.z72; have v72 := L.v72; have u72 := run_underlying L.t72
  have t70 := L.t70; have a70 := L.a70; have z70 := L.z70; have v70 := L.v70; have u70 := run_underlying L.t70
  have t5 := L.t5; have a5 := L.a5; have z5 := L.z5; have v5 := L.v5; have u5 := run_underlying L.t5
  have t37 := L.t37; have a37 := L.a37; have z37 := L.z37; have v37 := L.v37; have u37 := run_underlying L.t37
  have t9 := L.t9; have a9 := L.a9; have z9 := L.z9; have v9 := L.v9; have u9 := run_underlying L.t9
  have t4 := L.t4; have a4 := L.a4; have z4 := L.z4; have v4 := L.v4; have u4 := run_underlying L.t4
  have t164 := L.t164; have a164 := L.a164; have z164 := L.z164; have v164 := L.v164; have u164 := run_underlying L.t164
  have e240 : ∀ args w, (callFunc (ρ.f 240) args).run P w = .ok (.enter (ρ.f 240) args) w := enters_of L.f240 (by kernel_rfl) rfl
  go_enter L.f167, Body.n167_ntmps ρ
  go_wp2_with (go_at_fn (ρ.f 240); refine (bld_check { L with } X.toX72 h).mono ?_)
  rintro e w1 ⟨rfl, h1, q1, q2, q3, q4, q5⟩
  have hb1 := h1.blk
  have c0 : w1.cell? ⟨b, 0, none⟩ = some (.pointer (some ⟨b, 0, none⟩)) := by rw [Lib.cell_of_heap hb1]; rfl
  have c1 : w1.cell? ⟨b, 1, none⟩ = some v := by rw [Lib.cell_of_heap hb1]; rfl
  have hlt : b < w1.heap.size := by
    rcases Nat.lt_or_ge b w1.heap.size with h' | h'
    · exact h'
    · simp [Array.getElem?_eq_none h'] at hb1
  have hsrc : okSrc (nullCfg P) (ρ.t 37) = true := by simp [okSrc, nullCfg, L.t37]
  go_wp2_with (at_builtin; refine wpList_app_own rfl _ _ (ρ.t 37) (ρ.t 37) rfl (ρ.t 5) i0 L.t37 hi hz0 hz1 hz2 hsrc _ _ _ rfl (h1.own.alloc _) _ 1 [.int .u8 c] rfl rfl ?c1 rfl ?c2 hlen ?_)
  case c1 =>
    intro w' hw'
    show (Builtin.firstCells 1 1 (.slice (some ⟨w.heap.size, 0, none⟩) 1 1)).run P w' = _
    rw [← q4]
    have := load_block (P := P) (w := w') (b := w1.heap.size) (o := 0) (n := 1) (arr := #[.int .u8 c]) (el := ρ.t 5) (fz := (0, 0)) (by rw [hw']; exact heap_alloc_new w1 _) (by simp)
    simpa [Builtin.firstCells] using this
  case c2 => intro u hu; simp at hu; subst hu; rfl
  intro v' w2 hown' hgrow hblk
  have hb2 : w2.heap[b]? = some (.cells #[.pointer (some ⟨b, 0, none⟩), v] (ρ.t 72) (0, 0)) := by
    rw [hgrow.block b (by simp; omega) (fun e => h1.ne e.symm), Lib.alloc_old w1 _ b hlt]
    exact hb1
  have d0 : w2.cell? ⟨b, 0, none⟩ = some (.pointer (some ⟨b, 0, none⟩)) := by rw [Lib.cell_of_heap hb2]; rfl
  have d1 : w2.cell? ⟨b, 1, none⟩ = some v := by rw [Lib.cell_of_heap hb2]; rfl
  have f1 : w2.frozen? ⟨b, 1, none⟩ = false := Lib.frozen_of_heap hb2 1
  obtain ⟨g, cap, rfl⟩ : ∃ g cap, v' = .slice (some ⟨g, 0, none⟩) (xs.length + 1) cap := by
    rcases hown'.2 with ⟨_, h0⟩ | ⟨g, cap, cur, hv, _⟩
    · omega
    · exact ⟨g, cap, hv⟩
  go_wp2
  go_ret
  refine ⟨rfl, bld_put h1 q1 q2 q3 q4 q5 (by simpa using hown') ⟨hgrow.os, hgrow.tape, hgrow.output, by have := hgrow.size; simp at this; omega, fun k hk hkv => by rw [hgrow.block k (by simp; omega) hkv]; exact Lib.alloc_old w1 _ k hk⟩ (fun g hg => ?_) X.neB5⟩
  rcases hblk with hq | hq
  · exact .inl (hq.symm.trans hg)
  · rw [hq] at hg
    simp at hg
    exact .inr (by omega)

set_option maxHeartbeats 2000000 in
set_option maxRecDepth 100000 in
theorem bld_writeString {P : Program} {ρ : Ren} (L : Lays.n166 P ρ) (X : Builder.Extra P ρ) {b : Nat} {p v : Value} {xs : List Value} {w : World} (h : BldAt (ρ.t 72) (ρ.t 5) b p v xs w) (s : ByteArray) (hlen : xs.length + s.size ≤ bound) :
    Calls P (ρ.f 166) #[.pointer (some ⟨b, 0, none⟩), .string s] w fun e w' => e = .returned (.tuple #[.int .i64 s.size, .nilIface]) ∧ BldPost w w' b v (xs ++ Lib.strCells s) (ρ.t 72) (ρ.t 5) := by
  obtain ⟨i0, hi, hz0, hz1, hz2⟩ := info_parts X.infoByte
  have mixed := L.mixed
  have t72 := L.t72; have a72 := L.a72; have z72 := L.z72; have v72 := L.v72; have u72 := run_underlying L.t72
  have t70 := L.t70; have a70 := L.a70; have z70 := L.z70; have v70 := L.v70; have u70 := run_underlying L.t70
  have t37 := L.t37; have a37 := L.a37; have z37 := L.z37; have v37 := L.v37; have u37 := run_underlying L.t37
  have t3 := L.t3; have a3 := L.a3; have z3 := L.z3; have v3 := L.v3; have u3 := run_underlying L.t3
  have t9 := L.t9; have a9 := L.a9; have z9 := L.z9; have v9 := L.v9; have u9 := run_underlying L.t9
  have t4 := L.t4; have a4 := L.a4; have z4 := L.z4; have v4 := L.v4; have u4 := run_underlying L.t4
  have t164 := L.t164; have a164 := L.a164; have z164 := L.z164; have v164 := L.v164; have u164 := run_underlying L.t164
  have t5 := X.t5; have a5 := X.a5; have z5 := X.z5; have v5 := X.v5; have u5 := run_underlying X.t5
  have e240 : ∀ args w, (callFunc (ρ.f 240) args).run P w = .ok (.enter (ρ.f 240) args) w := enters_of L.f240 (by kernel_rfl) rfl
  go_enter L.f166, Body.n166_ntmps ρ
  go_wp2_with (go_at_fn (ρ.f 240); refine (bld_check { L with } X.toX72 h).mono ?_)
  rintro e w1 ⟨rfl, h1, q1, q2, q3, q4, q5⟩
  have hb1 := h1.blk
  have c0 : w1.cell? ⟨b, 0, none⟩ = some (.pointer (some ⟨b, 0, none⟩)) := by rw [Lib.cell_of_heap hb1]; rfl
  have c1 : w1.cell? ⟨b, 1, none⟩ = some v := by rw [Lib.cell_of_heap hb1]; rfl
  have hlt : b < w1.heap.size := by
    rcases Nat.lt_or_ge b w1.heap.size with h' | h'
    · exact h'
    · simp [Array.getElem?_eq_none h'] at hb1
  have hsrc : okSrc (nullCfg P) (ρ.t 9) = true := by simp [okSrc, nullCfg, L.t9]
  have hsl : (Lib.strCells s).length = s.size := Lib.strCells_length s
  go_wp2_with (at_builtin; refine wpList_app_own rfl _ _ (ρ.t 37) (ρ.t 9) rfl (ρ.t 5) i0 L.t37 hi hz0 hz1 hz2 hsrc _ _ _ rfl h1.own _ s.size (Lib.strCells s) rfl rfl ?c1 hsl ?c2 hlen ?_)
  case c1 =>
    intro w' hw'
    show (Builtin.firstCells 1 s.size (.string s)).run P w' = _
    simp only [Builtin.firstCells, Sem.run_pure]
    congr 1
    apply Array.ext'
    simp [Lib.strCells]
  case c2 => intro u hu; simp [Lib.strCells] at hu; obtain ⟨_, _, rfl⟩ := hu; rfl
  intro v' w2 hown' hgrow hblk
  have hb2 : w2.heap[b]? = some (.cells #[.pointer (some ⟨b, 0, none⟩), v] (ρ.t 72) (0, 0)) := by
    rw [hgrow.block b hlt (fun e => h1.ne e.symm)]
    exact hb1
  have d0 : w2.cell? ⟨b, 0, none⟩ = some (.pointer (some ⟨b, 0, none⟩)) := by rw [Lib.cell_of_heap hb2]; rfl
  have d1 : w2.cell? ⟨b, 1, none⟩ = some v := by rw [Lib.cell_of_heap hb2]; rfl
  have f1 : w2.frozen? ⟨b, 1, none⟩ = false := Lib.frozen_of_heap hb2 1
  obtain ⟨ao, n', cap, rfl⟩ : ∃ ao n' cap, v' = .slice ao n' cap := by
    rcases hown'.2 with ⟨hv, _⟩ | ⟨g, cap, cur, hv, _⟩
    · exact ⟨_, _, _, hv⟩
    · exact ⟨_, _, _, hv⟩
  go_wp2
  go_ret2
  refine ⟨rfl, bld_put h1 q1 q2 q3 q4 q5 (by simpa [hsl] using hown') hgrow (fun g hg => ?_) X.neB5⟩
  rcases hblk with hq | hq
  · exact .inl (hq.symm.trans hg)
  · rw [hq] at hg
    simp at hg
    exact .inr (by omega)

/-- All else is as it was. -/
def Kept (w w' : World) (b : Nat) (v : Value) : Prop :=
  w'.os = w.os ∧ w'.tape = w.tape ∧ w'.output = w.output ∧ w.heap.size ≤ w'.heap.size ∧ ∀ k, k < w.heap.size → k ≠ b → some k ≠ v.ownBlock → w'.heap[k]? = w.heap[k]?

theorem Kept.same {w w' : World} (b : Nat) (v : Value) (h1 : w'.os = w.os) (h2 : w'.tape = w.tape) (h3 : w'.output = w.output) (h4 : w'.heap = w.heap) : Kept w w' b v :=
  ⟨h1, h2, h3, by rw [h4]; exact Nat.le_refl _, fun k _ _ _ => by rw [h4]⟩

set_option maxHeartbeats 2000000 in
set_option maxRecDepth 100000 in
theorem bld_string_some {P : Program} {ρ : Ren} (L : Lays.n169 P ρ) (X : Builder.Extra P ρ) {b : Nat} {p v : Value} {l : List UInt8} {w : World} (h : BldAt (ρ.t 72) (ρ.t 5) b p v (Lib.byteCells l) w) (h0 : l ≠ []) :
    Calls P (ρ.f 169) #[.pointer (some ⟨b, 0, none⟩)] w fun e w' => e = .returned (.string ⟨l.toArray⟩) ∧ Kept w w' b v := by
  obtain ⟨hp, hbk, hown, hne⟩ := h
  have hl0 : l.length ≠ 0 := by simpa using h0
  rw [Lib.byteCells_length] at hown
  obtain ⟨g, cap, cur, rfl, hg, hnc, hcm, hcs, htake⟩ : ∃ g cap cur, v = .slice (some ⟨g, 0, none⟩) l.length cap ∧ w.heap[g]? = some (.cells cur (ρ.t 5) (0, 0)) ∧ l.length ≤ cap ∧ cap ≤ maxLen ∧ cur.size = cap * 1 ∧ cur.toList.take (l.length * 1) = Lib.byteCells l := by
    rcases hown.2 with ⟨_, hz⟩ | ⟨g, cap, cur, hv, _, r⟩
    · exact absurd hz hl0
    · exact ⟨g, cap, cur, hv, r⟩
  have c1 : w.drew.cell? ⟨b, 1, none⟩ = some (.slice (some ⟨g, 0, none⟩) l.length cap) := by
    have : w.drew.heap[b]? = some (.cells #[p, .slice (some ⟨g, 0, none⟩) l.length cap] (ρ.t 72) (0, 0)) := hbk
    rw [Lib.cell_of_heap this]; rfl
  have hSD : (Builtin.unsafeSliceData_ #[(ρ.t 37)] (ρ.t 127) #[.slice (some ⟨g, 0, none⟩) l.length cap]).run P w.drew = .ok (.pointer (some ⟨g, 0, none⟩)) w.drew :=
    Lib.run_unsafeSliceData_row _ _ _ _ _ _ (by omega)
  have hUS : (Builtin.unsafeString_ #[(ρ.t 127), (ρ.t 3)] (ρ.t 9) #[.pointer (some ⟨g, 0, none⟩), .int .i64 l.length]).run P w.drew = .ok (.string ⟨l.toArray⟩) (w.drew.freeze ⟨g, 0, none⟩ l.length) := by
    refine Lib.run_unsafeString_row w.drew (ρ.t 127) (ρ.t 3) (ρ.t 9) (ρ.t 5) L.t127 X.cellsByte g cur.size (by have hg' : w.drew.heap[g]? = some (.cells cur (ρ.t 5) (0, 0)) := hg; simp [World.shape?, hg']) l h0 (by omega) (by unfold maxLen at hcm; omega) ?_
    intro j x hx
    have := hown.cells (g := g) rfl j (.int .u8 x.toNat) (by simp [Lib.byteCells, hx])
    exact this
  have hfin : Kept w (w.drew.freeze ⟨g, 0, none⟩ l.length) b (.slice (some ⟨g, 0, none⟩) l.length cap) := by
    unfold World.freeze
    rw [if_neg hl0]
    refine ⟨rfl, rfl, rfl, by simp, fun k _ _ hk => ?_⟩
    have hk' : g ≠ k := fun q => hk (by simp [Value.ownBlock, q])
    simp [Array.getElem?_modify, hk']
    rfl
  have mixed := L.mixed
  have t72 := L.t72; have a72 := L.a72; have z72 := L.z72; have v72 := L.v72; have u72 := run_underlying L.t72
  have t70 := L.t70; have a70 := L.a70; have z70 := L.z70; have v70 := L.v70; have u70 := run_underlying L.t70
  have t37 := L.t37; have a37 := L.a37; have z37 := L.z37; have v37 := L.v37; have u37 := run_underlying L.t37
  have t127 := L.t127; have a127 := L.a127; have z127 := L.z127; have v127 := L.v127; have u127 := run_underlying L.t127
  have t3 := L.t3; have a3 := L.a3; have z3 := L.z3; have v3 := L.v3; have u3 := run_underlying L.t3
  have t9 := L.t9; have a9 := L.a9; have z9 := L.z9; have v9 := L.v9; have u9 := run_underlying L.t9
  have t5 := X.t5; have a5 := X.a5; have z5 := X.z5; have v5 := X.v5; have u5 := run_underlying X.t5
  go_enter L.f169, Body.n169_ntmps ρ
  go_wp2
  go_region_o
  all_goals (go_wp2; go_ret; exact ⟨rfl, hfin⟩)

set_option maxHeartbeats 2000000 in
set_option maxRecDepth 100000 in
theorem bld_string_nil {P : Program} {ρ : Ren} (L : Lays.n169 P ρ) (X : Builder.Extra P ρ) {b : Nat} {p : Value} {w : World} (hbk : w.heap[b]? = some (.cells #[p, .slice none 0 0] (ρ.t 72) (0, 0))) :
    Calls P (ρ.f 169) #[.pointer (some ⟨b, 0, none⟩)] w fun e w' => e = .returned (.string ⟨#[]⟩) ∧ Kept w w' b (.slice none 0 0) := by
  have hUS := Any.unsafeString_none L X
  have c1 : w.drew.cell? ⟨b, 1, none⟩ = some (.slice none 0 0) := by
    have : w.drew.heap[b]? = some (.cells #[p, .slice none 0 0] (ρ.t 72) (0, 0)) := hbk
    rw [Lib.cell_of_heap this]; rfl
  have hSD : (Builtin.unsafeSliceData_ #[(ρ.t 37)] (ρ.t 127) #[.slice none 0 0]).run P w.drew = .ok (.pointer none) w.drew := rfl
  have mixed := L.mixed
  have t72 := L.t72; have a72 := L.a72; have z72 := L.z72; have v72 := L.v72; have u72 := run_underlying L.t72
  have t70 := L.t70; have a70 := L.a70; have z70 := L.z70; have v70 := L.v70; have u70 := run_underlying L.t70
  have t37 := L.t37; have a37 := L.a37; have z37 := L.z37; have v37 := L.v37; have u37 := run_underlying L.t37
  have t127 := L.t127; have a127 := L.a127; have z127 := L.z127; have v127 := L.v127; have u127 := run_underlying L.t127
  have t3 := L.t3; have a3 := L.a3; have z3 := L.z3; have v3 := L.v3; have u3 := run_underlying L.t3
  have t9 := L.t9; have a9 := L.a9; have z9 := L.z9; have v9 := L.v9; have u9 := run_underlying L.t9
  have t5 := X.t5; have a5 := X.a5; have z5 := X.z5; have v5 := X.v5; have u5 := run_underlying X.t5
  go_enter L.f169, Body.n169_ntmps ρ
  go_wp2
  go_region_o
  all_goals (go_wp2; go_ret; exact ⟨rfl, Kept.same _ _ rfl rfl rfl rfl⟩)

set_option maxHeartbeats 2000000 in
set_option maxRecDepth 100000 in
theorem bld_string_noroom {P : Program} {ρ : Ren} (L : Lays.n169 P ρ) (X : Builder.Extra P ρ) {b g : Nat} {p : Value} {cur : Array Value} {w : World} (hbk : w.heap[b]? = some (.cells #[p, .slice (some ⟨g, 0, none⟩) 0 0] (ρ.t 72) (0, 0))) (hg : w.heap[g]? = some (.cells cur (ρ.t 5) (0, 0))) :
    Calls P (ρ.f 169) #[.pointer (some ⟨b, 0, none⟩)] w fun e w' => e = .returned (.string ⟨#[]⟩) ∧ Kept w w' b (.slice (some ⟨g, 0, none⟩) 0 0) := by
  have hUS := Any.unsafeString_none L X
  have hlt : b < w.heap.size := by
    rcases Nat.lt_or_ge b w.heap.size with h' | h'
    · exact h'
    · simp [Array.getElem?_eq_none h'] at hbk
  have c1 : w.drew.cell? ⟨b, 1, none⟩ = some (.slice (some ⟨g, 0, none⟩) 0 0) := by
    have : w.drew.heap[b]? = some (.cells #[p, .slice (some ⟨g, 0, none⟩) 0 0] (ρ.t 72) (0, 0)) := hbk
    rw [Lib.cell_of_heap this]; rfl
  have hSD : (Builtin.unsafeSliceData_ #[(ρ.t 37)] (ρ.t 127) #[.slice (some ⟨g, 0, none⟩) 0 0]).run P w.drew = .ok (.pointer (some ⟨w.drew.heap.size, 0, none⟩)) (w.drew.alloc (.view ⟨g, 0, none⟩ (ρ.t 5))) :=
    Lib.run_unsafeSliceData_zero w.drew _ _ (ρ.t 5) L.t127 ⟨g, 0, none⟩ 0 ((ρ.t 5), cur.size) (by have hg' : w.drew.heap[g]? = some (.cells cur (ρ.t 5) (0, 0)) := hg; simp [World.shape?, hg'])
  have c2 : (w.drew.alloc (.view ⟨g, 0, none⟩ (ρ.t 5))).cell? ⟨b, 1, none⟩ = some (.slice (some ⟨g, 0, none⟩) 0 0) := by
    have : (w.drew.alloc (.view ⟨g, 0, none⟩ (ρ.t 5))).heap[b]? = _ := (Lib.alloc_old w.drew _ b hlt).trans hbk
    rw [Lib.cell_of_heap this]; rfl
  have c3 : (w.alloc (.view ⟨g, 0, none⟩ (ρ.t 5))).drew.cell? ⟨b, 1, none⟩ = some (.slice (some ⟨g, 0, none⟩) 0 0) := c2
  have c0 : w.cell? ⟨b, 1, none⟩ = some (.slice (some ⟨g, 0, none⟩) 0 0) := c1
  have hfin : Kept w (w.drew.alloc (.view ⟨g, 0, none⟩ (ρ.t 5))) b (.slice (some ⟨g, 0, none⟩) 0 0) :=
    ⟨rfl, rfl, rfl, by rw [size_alloc]; exact Nat.le_succ _, fun k hk _ _ => heap_alloc_old w.drew _ hk⟩
  have mixed := L.mixed
  have t72 := L.t72; have a72 := L.a72; have z72 := L.z72; have v72 := L.v72; have u72 := run_underlying L.t72
  have t70 := L.t70; have a70 := L.a70; have z70 := L.z70; have v70 := L.v70; have u70 := run_underlying L.t70
  have t37 := L.t37; have a37 := L.a37; have z37 := L.z37; have v37 := L.v37; have u37 := run_underlying L.t37
  have t127 := L.t127; have a127 := L.a127; have z127 := L.z127; have v127 := L.v127; have u127 := run_underlying L.t127
  have t3 := L.t3; have a3 := L.a3; have z3 := L.z3; have v3 := L.v3; have u3 := run_underlying L.t3
  have t9 := L.t9; have a9 := L.a9; have z9 := L.z9; have v9 := L.v9; have u9 := run_underlying L.t9
  have t5 := X.t5; have a5 := X.a5; have z5 := X.z5; have v5 := X.v5; have u5 := run_underlying X.t5
  go_enter L.f169, Body.n169_ntmps ρ
  go_wp2
  go_region_o
  all_goals (go_wp2; go_ret; exact ⟨rfl, hfin⟩)

set_option maxHeartbeats 2000000 in
set_option maxRecDepth 100000 in
theorem bld_string_room {P : Program} {ρ : Ren} (L : Lays.n169 P ρ) (X : Builder.Extra P ρ) {b g cap : Nat} {p : Value} {w : World} (hc0 : cap ≠ 0) (hbk : w.heap[b]? = some (.cells #[p, .slice (some ⟨g, 0, none⟩) 0 cap] (ρ.t 72) (0, 0))) :
    Calls P (ρ.f 169) #[.pointer (some ⟨b, 0, none⟩)] w fun e w' => e = .returned (.string ⟨#[]⟩) ∧ Kept w w' b (.slice (some ⟨g, 0, none⟩) 0 cap) := by
  have hUS := Any.unsafeString_none L X
  have c1 : w.drew.cell? ⟨b, 1, none⟩ = some (.slice (some ⟨g, 0, none⟩) 0 cap) := by
    have : w.drew.heap[b]? = some (.cells #[p, .slice (some ⟨g, 0, none⟩) 0 cap] (ρ.t 72) (0, 0)) := hbk
    rw [Lib.cell_of_heap this]; rfl
  have hSD : (Builtin.unsafeSliceData_ #[(ρ.t 37)] (ρ.t 127) #[.slice (some ⟨g, 0, none⟩) 0 cap]).run P w.drew = .ok (.pointer (some ⟨g, 0, none⟩)) w.drew :=
    Lib.run_unsafeSliceData_row _ _ _ _ _ _ hc0
  clear hc0
  have mixed := L.mixed
  have t72 := L.t72; have a72 := L.a72; have z72 := L.z72; have v72 := L.v72; have u72 := run_underlying L.t72
  have t70 := L.t70; have a70 := L.a70; have z70 := L.z70; have v70 := L.v70; have u70 := run_underlying L.t70
  have t37 := L.t37; have a37 := L.a37; have z37 := L.z37; have v37 := L.v37; have u37 := run_underlying L.t37
  have t127 := L.t127; have a127 := L.a127; have z127 := L.z127; have v127 := L.v127; have u127 := run_underlying L.t127
  have t3 := L.t3; have a3 := L.a3; have z3 := L.z3; have v3 := L.v3; have u3 := run_underlying L.t3
  have t9 := L.t9; have a9 := L.a9; have z9 := L.z9; have v9 := L.v9; have u9 := run_underlying L.t9
  have t5 := X.t5; have a5 := X.a5; have z5 := X.z5; have v5 := X.v5; have u5 := run_underlying X.t5
  go_enter L.f169, Body.n169_ntmps ρ
  go_wp2
  go_region_o
  all_goals (go_wp2; go_ret; exact ⟨rfl, Kept.same _ _ rfl rfl rfl rfl⟩)

theorem bld_string {P : Program} {ρ : Ren} (L : Lays.n169 P ρ) (X : Builder.Extra P ρ) {b : Nat} {p v : Value} {l : List UInt8} {w : World} (h : BldAt (ρ.t 72) (ρ.t 5) b p v (Lib.byteCells l) w) :
    Calls P (ρ.f 169) #[.pointer (some ⟨b, 0, none⟩)] w fun e w' => e = .returned (.string ⟨l.toArray⟩) ∧ Kept w w' b v := by
  by_cases h0 : l = []
  · subst h0
    obtain ⟨hp, hbk, hown, hne⟩ := h
    rcases hown.2 with ⟨rfl, _⟩ | ⟨g, cap, cur, rfl, _, hg, _⟩
    · exact bld_string_nil L X hbk
    · by_cases hc0 : cap = 0
      · subst hc0
        exact bld_string_noroom L X hbk hg
      · exact bld_string_room L X hc0 hbk
  · exact bld_string_some L X h h0

end Go.Ev

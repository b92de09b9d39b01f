import Derived.Test.YtdelaagbhhnniaaGreatDoorEvCore
import Derived.Laws.World
import Derived.Laws.Cells
import Derived.ChangeKeysEq
namespace Go.Ev
set_option linter.unusedVariables false

/-- Where things lie. -/
structure Cx where
  bm : Nat → Nat
  fp : Nat → Nat → Prop
  tsz : Nat → Nat
  tot : Nat → Nat
  fr : Nat → Nat → Prop

def D.isAgg : D → Bool
  | .agg _ => true
  | _ => false
def vAgg : Value → Bool
  | .agg _ => true
  | _ => false

/-- Cells that read as a piece of data, in memory that nobody writes. -/
inductive CRel (w : World) (fr : Nat → Nat → Prop) : D → List Value → Prop
  | bool (b : Bool) : CRel w fr (.bool b) [.bool b]
  | int (k : IntKind) (n : Int) : CRel w fr (.int k n) [.int k n]
  | flt (k : FloatKind) (b : Nat) : CRel w fr (.flt k b) [.float k b]
  | str (s : ByteArray) : CRel w fr (.str s.data.toList) [.string s]
  | nilp : CRel w fr .nilp [.pointer none]
  | nilm : CRel w fr .nilm [.map none]
  | nilf : CRel w fr .nilf [.nilFunc]
  | nili : CRel w fr .nili [.nilIface]
  | nils : CRel w fr .nils [.slice none 0 0]
  | sl0 (a : Option Addr) (cap : Nat) (tight : Bool) (h : tight = true → cap = 0) : CRel w fr (.sl [] tight) [.slice a 0 cap]
  | sl (xs : List D) (tight : Bool) (b off cap sz : Nat) (vs : Nat → List Value) (hne : xs ≠ []) (hcap : xs.length ≤ cap) (ht : tight = true → cap = xs.length)
      (hsz : ∀ (i : Nat) (x : D), xs[i]? = some x → x.cells.length = sz)
      (hlen : ∀ (i : Nat), i < xs.length → (vs i).length = sz)
      (hx : ∀ (i : Nat) (x : D), xs[i]? = some x → CRel w fr x (vs i))
      (hc : ∀ (i j : Nat) (v : Value), i < xs.length → (vs i)[j]? = some v → w.cell? ⟨b, off + i * sz + j, none⟩ = some v ∧ ¬ fr b (off + i * sz + j)) :
      CRel w fr (.sl xs tight) [.slice (some ⟨b, off, none⟩) xs.length cap]
  | agg (xs : List D) (vs : List Value) (hl : vs.length = xs.length) (ho : ∀ v ∈ vs, v.oneCell' = true)
      (hn : ∀ x ∈ xs, x.isAgg = false)
      (h : ∀ (i : Nat) (x : D) (v : Value), xs[i]? = some x → vs[i]? = some v → CRel w fr x [v]) : CRel w fr (.agg xs) vs
  | iface (t : Nat) (x : D) (v : Value) (hs : x.isAgg = vAgg v) (h : CRel w fr x v.cells.toList) : CRel w fr (.iface t x) [.iface t v]

def DRel (w : World) (fr : Nat → Nat → Prop) (x : D) (v : Value) : Prop := CRel w fr x v.cells.toList ∧ x.isAgg = vAgg v

def genD : D → Nat
  | .int _ n => n.toNat
  | _ => 0

/-- Which state of a block, or of a token, is the present one. -/
def cur (S : St) (id : Nat) : Option Nat :=
  match S.H.get id with
  | some (.cells g _) => some g
  | some (.map _) => some 0
  | some (.obj _ x) => some (genD x)
  | none => S.T.get id

/-- An iterator in a state of its own. -/
def isIt (S : St) (k g : Nat) : Prop := S.H.get k = some (.obj 3 (.int .i64 (g : Int)))

def Names (S : St) (id g : Nat) : Prop := id < S.nx ∧ ∀ g', cur S id = some g' → g ≤ g'

inductive ARel (cx : Cx) (S : St) (w : World) : AV → Value → Prop
  | d (x : D) (v : Value) (h : DRel w cx.fr x v) : ARel cx S w (.d x) v
  | tsl (xs : List D) (tok : Nat) (b off cap : Nat) (hn : Names S tok xs.length)
      (h : DRel w cx.fr (.sl xs false) (.slice (some ⟨b, off, none⟩) xs.length cap))
      (hp : cur S tok = some xs.length → b = cx.bm tok ∧ off = 0 ∧ cap = cx.tot tok ∧ ∀ x ∈ xs, x.cells.length = cx.tsz tok) :
      ARel cx S w (.tsl xs tok) (.slice (some ⟨b, off, none⟩) xs.length cap)
  | ptr (id g off b : Nat) (hn : Names S id g) (hp : cur S id = some g → b = cx.bm id) : ARel cx S w (.ptr id g off) (.pointer (some ⟨b, off, none⟩))
  | msl (id g off len lim sz b cap : Nat) (hn : Names S id g) (hl : len ≤ lim) (hcap : lim ≤ cap) (h63 : cap ≤ 9223372036854775807) (hp : cur S id = some g → b = cx.bm id ∧ cx.tsz id ≤ off + cap * sz ∧ off + cap * sz ≤ cx.tot id) :
      ARel cx S w (.msl id g off len lim sz) (.slice (some ⟨b, off, none⟩) len cap)
  | eptr (x : D) (off b o : Nat) (vs : List Value) (h : CRel w cx.fr x vs)
      (hc : ∀ (j : Nat) (v : Value), vs[j]? = some v → w.cell? ⟨b, o + j, none⟩ = some v ∧ ¬ cx.fr b (o + j)) : ARel cx S w (.eptr x off) (.pointer (some ⟨b, o + off, none⟩))
  | map (id b : Nat) (hn : Names S id 0) (hp : cur S id = some 0 → b = cx.bm id) : ARel cx S w (.map id) (.map (some b))
  | fn (f : Nat) (cs : List AV) (vs : List Value) (hl : vs.length = cs.length)
      (h : ∀ (i : Nat) (x : AV) (v : Value), cs[i]? = some x → vs[i]? = some v → ARel cx S w x v) : ARel cx S w (.fn f cs) (.func (.func f) #[] vs.toArray)
  | agg (xs : List AV) (vs : List Value) (hl : vs.length = xs.length) (ho : ∀ v ∈ vs, v.oneCell' = true)
      (h : ∀ (i : Nat) (x : AV) (v : Value), xs[i]? = some x → vs[i]? = some v → ARel cx S w x v) : ARel cx S w (.agg xs) (.agg vs.toArray)
  | tup (xs : List AV) (vs : List Value) (hl : vs.length = xs.length)
      (h : ∀ (i : Nat) (x : AV) (v : Value), xs[i]? = some x → vs[i]? = some v → ARel cx S w x v) : ARel cx S w (.tup xs) (.tuple vs.toArray)
  | any (v : Value) : ARel cx S w .any v
  | it0 (k g since st b : Nat) (seen : List Nat) (hn : Names S k g) (hp : isIt S k g → b = cx.bm k ∧ cx.fp k b ∧ (∀ i, cur S i ≠ none → cx.fp i b → i = k) ∧ w.heap[b]? = some (.mapIter none 0 #[] 0)) :
      ARel cx S w (.it k g none since seen st) (.pointer (some ⟨b, 0, none⟩))
  | it (k g id since st b m : Nat) (seen : List Nat) (hn : Names S k g) (hni : Names S id 0) (hm : cur S id = some 0 → m = cx.bm id)
      (hp : isIt S k g → b = cx.bm k ∧ cx.fp k b ∧ (∀ i, cur S i ≠ none → cx.fp i b → i = k) ∧ w.heap[b]? = some (.mapIter (some m) since seen.toArray st)) :
      ARel cx S w (.it k g (some id) since seen st) (.pointer (some ⟨b, 0, none⟩))

def live (S : St) (id : Nat) : Prop := cur S id ≠ none

structure Ext (cx : Cx) (S : St) (w : World) (cx' : Cx) (S' : St) (w' : World) : Prop where
  size : w.heap.size ≤ w'.heap.size
  os : w'.os = w.os
  tape : w'.tape = w.tape
  output : w'.output = w.output
  nx : S.nx ≤ S'.nx
  prot : ∀ (b o : Nat) (v : Value), ¬ cx.fr b o → w.cell? ⟨b, o, none⟩ = some v → w'.cell? ⟨b, o, none⟩ = some v ∧ ¬ cx'.fr b o
  other : ∀ (b : Nat), b < w.heap.size → (∀ id, live S id → cx.fp id b → id < S.nx ∧ ∃ g, isIt S id g ∧ isIt S' id g) → w'.heap[b]? = w.heap[b]? ∧ ∀ o, (cx'.fr b o ↔ cx.fr b o)
  own : ∀ (id b : Nat), live S' id → cx'.fp id b → (id < S.nx → live S id ∧ (cx.fp id b ∨ w.heap.size ≤ b)) ∧ (S.nx ≤ id → w.heap.size ≤ b)
  back : ∀ (id g : Nat), id < S.nx → isIt S' id g → ∃ g', isIt S id g'
  keep : ∀ (id g b : Nat), id < S.nx → isIt S id g → isIt S' id g → cx.fp id b → cx'.fp id b
  curs : ∀ (id g : Nat), id < S.nx → cur S' id = some g → ∃ g0, cur S id = some g0 ∧ g0 ≤ g ∧ (g = g0 → cx'.bm id = cx.bm id ∧ cx'.tsz id = cx.tsz id ∧ cx'.tot id = cx.tot id)

theorem CRel.mono {w w' : World} {fr fr' : Nat → Nat → Prop} (hp : ∀ (b o : Nat) (v : Value), ¬ fr b o → w.cell? ⟨b, o, none⟩ = some v → w'.cell? ⟨b, o, none⟩ = some v ∧ ¬ fr' b o)
    {x : D} {vs : List Value} (h : CRel w fr x vs) : CRel w' fr' x vs := by
  induction h with
  | bool b => exact .bool b
  | int k n => exact .int k n
  | flt k b => exact .flt k b
  | str s => exact .str s
  | nilp => exact .nilp
  | nilm => exact .nilm
  | nilf => exact .nilf
  | nili => exact .nili
  | nils => exact .nils
  | sl0 a cap t h => exact .sl0 a cap t h
  | sl xs t b off cap sz vs hne hcap ht hsz hlen hx hc ih =>
    exact .sl xs t b off cap sz vs hne hcap ht hsz hlen ih (fun i j v hi hv => hp _ _ _ (hc i j v hi hv).2 (hc i j v hi hv).1)
  | agg xs vs hl ho hn h ih => exact .agg xs vs hl ho hn ih
  | iface t x v hs h ih => exact .iface t x v hs ih

theorem DRel.mono {w w' : World} {fr fr' : Nat → Nat → Prop} (hp : ∀ (b o : Nat) (v : Value), ¬ fr b o → w.cell? ⟨b, o, none⟩ = some v → w'.cell? ⟨b, o, none⟩ = some v ∧ ¬ fr' b o)
    {x : D} {v : Value} (h : DRel w fr x v) : DRel w' fr' x v := ⟨h.1.mono hp, h.2⟩

theorem Names.mono {cx cx' : Cx} {S S' : St} {w w' : World} (e : Ext cx S w cx' S' w') {id g : Nat} (h : Names S id g) : Names S' id g :=
  ⟨Nat.lt_of_lt_of_le h.1 e.nx, fun g' hg => by
    obtain ⟨g0, h0, hle, _⟩ := e.curs id g' h.1 hg
    exact Nat.le_trans (h.2 g0 h0) hle⟩

theorem Names.pos {cx cx' : Cx} {S S' : St} {w w' : World} (e : Ext cx S w cx' S' w') {id g : Nat} (h : Names S id g) (hc : cur S' id = some g) :
    cur S id = some g ∧ cx'.bm id = cx.bm id ∧ cx'.tsz id = cx.tsz id ∧ cx'.tot id = cx.tot id := by
  obtain ⟨g0, h0, hle, hq⟩ := e.curs id g h.1 hc
  have : g = g0 := Nat.le_antisymm (h.2 g0 h0) hle
  subst this
  exact ⟨h0, hq rfl⟩

theorem isIt_cur {S : St} {k g : Nat} (h : isIt S k g) : cur S k = some g := by
  unfold cur
  unfold isIt at h
  rw [h]
  simp [genD]

theorem isIt_uniq {S : St} {k g g' : Nat} (h : isIt S k g) (h' : cur S k = some g') : g = g' := by
  rw [isIt_cur h] at h'; exact Option.some.inj h'

/-- An iterator that goes on in the same state. -/
theorem it_mono {cx cx' : Cx} {S S' : St} {w w' : World} (e : Ext cx S w cx' S' w') {k g b : Nat} {o : Obj} (hn : Names S k g) (hp : isIt S k g → b = cx.bm k ∧ cx.fp k b ∧ (∀ i, cur S i ≠ none → cx.fp i b → i = k) ∧ w.heap[b]? = some o)
    (hk : isIt S' k g) : b = cx'.bm k ∧ cx'.fp k b ∧ (∀ i, cur S' i ≠ none → cx'.fp i b → i = k) ∧ w'.heap[b]? = some o := by
  obtain ⟨g0, h0⟩ := e.back k g hn.1 hk
  obtain ⟨h1, h2, _, _⟩ := hn.pos e (isIt_cur hk)
  have hg : g0 = g := isIt_uniq h0 h1
  subst hg
  obtain ⟨p1, p2, p3, p4⟩ := hp h0
  have hlt : b < w.heap.size := by
    rcases Nat.lt_or_ge b w.heap.size with q | q
    · exact q
    · rw [Array.getElem?_eq_none q] at p4; cases p4
  refine ⟨by rw [h2]; exact p1, e.keep k g0 b hn.1 h0 hk p2, fun i hi hf => ?_, ?_⟩
  · obtain ⟨q1, q2⟩ := e.own i b hi hf
    by_cases hnx : i < S.nx
    · obtain ⟨r1, r2⟩ := q1 hnx
      rcases r2 with r2 | r2
      · exact p3 i r1 r2
      · omega
    · have := q2 (by omega); omega
  · rw [(e.other b hlt (fun i hl hf => by
      have := p3 i hl hf
      subst this
      exact ⟨hn.1, g0, h0, hk⟩)).1]
    exact p4

theorem heap_lt {w : World} {b : Nat} {o : Obj} (h : w.heap[b]? = some o) : b < w.heap.size := by
  rcases Nat.lt_or_ge b w.heap.size with q | q
  · exact q
  · rw [Array.getElem?_eq_none q] at h; cases h

theorem ARel.mono {cx cx' : Cx} {S S' : St} {w w' : World} (e : Ext cx S w cx' S' w') {x : AV} {v : Value} (h : ARel cx S w x v) : ARel cx' S' w' x v := by
  induction h with
  | d x v h => exact .d x v (h.mono e.prot)
  | tsl xs tok b off cap hn h hp =>
    refine .tsl xs tok b off cap (hn.mono e) (h.mono e.prot) (fun hc => ?_)
    obtain ⟨h0, h1, h2, h3⟩ := hn.pos e hc
    rw [h1, h2, h3]
    exact hp h0
  | ptr id g off b hn hp =>
    refine .ptr id g off b (hn.mono e) (fun hc => ?_)
    obtain ⟨h0, h1, _, _⟩ := hn.pos e hc
    rw [h1]; exact hp h0
  | msl id g off len lim sz b cap hn hl hcap h63 hp =>
    refine .msl id g off len lim sz b cap (hn.mono e) hl hcap h63 (fun hc => ?_)
    obtain ⟨h0, h1, h2, h3⟩ := hn.pos e hc
    rw [h1, h2, h3]; exact hp h0
  | eptr x off b o vs h hc => exact .eptr x off b o vs (h.mono e.prot) (fun j v hv => e.prot _ _ _ (hc j v hv).2 (hc j v hv).1)
  | map id b hn hp =>
    refine .map id b (hn.mono e) (fun hc => ?_)
    obtain ⟨h0, h1, _, _⟩ := hn.pos e hc
    rw [h1]; exact hp h0
  | fn f cs vs hl h ih => exact .fn f cs vs hl ih
  | agg xs vs hl ho h ih => exact .agg xs vs hl ho ih
  | tup xs vs hl h ih => exact .tup xs vs hl ih
  | any v => exact .any v
  | it0 k g since st b seen hn hp => exact .it0 k g since st b seen (hn.mono e) (it_mono e hn hp)
  | it k g id since st b m seen hn hni hm hp =>
    refine .it k g id since st b m seen (hn.mono e) (hni.mono e) (fun hc => ?_) (it_mono e hn hp)
    obtain ⟨h0, h3, _, _⟩ := hni.pos e hc
    rw [h3]; exact hm h0

theorem Ext.refl {cx : Cx} {S : St} (w : World) (wf : ∀ id, live S id → id < S.nx) : Ext cx S w cx S w where
  size := Nat.le_refl _
  os := rfl
  tape := rfl
  output := rfl
  nx := Nat.le_refl _
  prot := fun _ _ _ h1 h2 => ⟨h2, h1⟩
  other := fun _ _ _ => ⟨rfl, fun _ => Iff.rfl⟩
  own := fun id b h hf => ⟨fun _ => ⟨h, .inl hf⟩, fun hge => absurd (wf id h) (by omega)⟩
  back := fun id g _ h => ⟨g, h⟩
  keep := fun _ _ _ _ _ _ h => h
  curs := fun id g _ h => ⟨g, h, Nat.le_refl _, fun _ => ⟨rfl, rfl, rfl⟩⟩

theorem Ext.trans {cx0 cx1 cx2 : Cx} {S0 S1 S2 : St} {w0 w1 w2 : World} (e1 : Ext cx0 S0 w0 cx1 S1 w1) (e2 : Ext cx1 S1 w1 cx2 S2 w2) : Ext cx0 S0 w0 cx2 S2 w2 where
  size := Nat.le_trans e1.size e2.size
  os := e2.os.trans e1.os
  tape := e2.tape.trans e1.tape
  output := e2.output.trans e1.output
  nx := Nat.le_trans e1.nx e2.nx
  prot := fun b o v h1 h2 => by
    obtain ⟨a, c⟩ := e1.prot b o v h1 h2
    exact e2.prot b o v c a
  other := fun b hb hn => by
    have mid : ∀ id g, id < S0.nx → isIt S0 id g → isIt S2 id g → isIt S1 id g := fun id g h h0 h2 => by
      obtain ⟨g1, h1⟩ := e2.back id g (Nat.lt_of_lt_of_le h e1.nx) h2
      obtain ⟨g0', c0, l0, _⟩ := e1.curs id g1 h (isIt_cur h1)
      obtain ⟨g1', c1, l1, _⟩ := e2.curs id g (Nat.lt_of_lt_of_le h e1.nx) (isIt_cur h2)
      have q0 := isIt_uniq h0 c0
      have q1 := isIt_uniq h1 c1
      have : g1 = g := by omega
      subst this; exact h1
    obtain ⟨a1, a2⟩ := e1.other b hb (fun id hl hf => by
      obtain ⟨hnx, g, h0, h2⟩ := hn id hl hf
      exact ⟨hnx, g, h0, mid id g hnx h0 h2⟩)
    have hn1 : ∀ id, live S1 id → cx1.fp id b → id < S1.nx ∧ ∃ g, isIt S1 id g ∧ isIt S2 id g := fun id hl hf => by
      obtain ⟨p, q⟩ := e1.own id b hl hf
      by_cases h : id < S0.nx
      · obtain ⟨p1, p2⟩ := p h
        rcases p2 with p2 | p2
        · obtain ⟨_, g, h0, h2⟩ := hn id p1 p2
          exact ⟨Nat.lt_of_lt_of_le h e1.nx, g, mid id g h h0 h2, h2⟩
        · omega
      · have := q (by omega); omega
    obtain ⟨b1, b2⟩ := e2.other b (Nat.lt_of_lt_of_le hb e1.size) hn1
    exact ⟨b1.trans a1, fun o => (b2 o).trans (a2 o)⟩
  own := fun id b hl hf => by
    obtain ⟨p, q⟩ := e2.own id b hl hf
    have hs := e1.size
    have hx := e1.nx
    refine ⟨fun h => ?_, fun h => ?_⟩
    · obtain ⟨p1, p2⟩ := p (by omega)
      rcases p2 with p2 | p2
      · exact (e1.own id b p1 p2).1 h
      · have hlive : live S0 id := by
          intro hc
          cases hc1 : cur S1 id with
          | none => exact p1 hc1
          | some g =>
            obtain ⟨g0, h0, _⟩ := e1.curs id g h hc1
            rw [h0] at hc; cases hc
        exact ⟨hlive, .inr (by omega)⟩
    · by_cases h2 : id < S1.nx
      · obtain ⟨p1, p2⟩ := p h2
        rcases p2 with p2 | p2
        · exact (e1.own id b p1 p2).2 h
        · omega
      · have := q (by omega); omega
  back := fun id g hid h2 => by
    obtain ⟨g1, h1⟩ := e2.back id g (Nat.lt_of_lt_of_le hid e1.nx) h2
    exact e1.back id g1 hid h1
  keep := fun id g b hnx h0 h2 hf => by
    obtain ⟨g1, h1⟩ := e2.back id g (Nat.lt_of_lt_of_le hnx e1.nx) h2
    obtain ⟨g0', c0, l0, _⟩ := e1.curs id g1 hnx (isIt_cur h1)
    obtain ⟨g1', c1, l1, _⟩ := e2.curs id g (Nat.lt_of_lt_of_le hnx e1.nx) (isIt_cur h2)
    have q0 := isIt_uniq h0 c0
    have q1 := isIt_uniq h1 c1
    have : g1 = g := by omega
    subst this
    exact e2.keep id g1 b (Nat.lt_of_lt_of_le hnx e1.nx) h1 h2 (e1.keep id g1 b hnx h0 h1 hf)
  curs := fun id g hid hg => by
    obtain ⟨g1, h1, le1, q1⟩ := e2.curs id g (Nat.lt_of_lt_of_le hid e1.nx) hg
    obtain ⟨g0, h0, le0, q0⟩ := e1.curs id g1 hid h1
    refine ⟨g0, h0, Nat.le_trans le0 le1, fun he => ?_⟩
    have e1' : g = g1 := by omega
    have e0' : g1 = g0 := by omega
    obtain ⟨a1, a2, a3⟩ := q1 e1'
    obtain ⟨b1, b2, b3⟩ := q0 e0'
    exact ⟨a1.trans b1, a2.trans b2, a3.trans b3⟩

/-- What an object of a kind is in memory: asked of the kinds. -/
structure ObjR where
  rel : Nat → D → World → Nat → (Nat → Prop) → Prop
  G : World → (Nat → Nat → Prop) → Prop
instance : CoeFun ObjR (fun _ => Nat → D → World → Nat → (Nat → Prop) → Prop) := ⟨ObjR.rel⟩
structure ObjOk (R : ObjR) : Prop where
  frame : ∀ (k : Nat) (x : D) (w w' : World) (b : Nat) (F : Nat → Prop), R k x w b F → (∀ c, F c → w'.heap[c]? = w.heap[c]?) → R k x w' b F
  lt : ∀ (k : Nat) (x : D) (w : World) (b : Nat) (F : Nat → Prop), R k x w b F → (∀ c, F c → c < w.heap.size) ∧ F b
  stat : ∀ (w w' : World) (fr fr' : Nat → Nat → Prop), R.G w fr → (∀ (b o : Nat) (v : Value), ¬ fr b o → w.cell? ⟨b, o, none⟩ = some v → w'.cell? ⟨b, o, none⟩ = some v ∧ ¬ fr' b o) → R.G w' fr'
  it : ∀ (x : D) (w : World) (b : Nat) (F : Nat → Prop), R.rel 3 x w b F ↔ (b < w.heap.size ∧ ∀ c, F c ↔ c = b)
/-- The types whose variables are objects. -/
structure ObjOkC (R : ObjR) (C : Cfg) : Prop extends ObjOk R where
  new : ∀ (t k : Nat) (x : D), C.objT t = some (k, x) → ∃ z, (∀ w, (zeroValue t).run C.P w = .ok z w) ∧ (∀ w : World, R.rel k x (w.alloc (.cells z.cells t)) w.heap.size (fun c => c = w.heap.size)) ∧ genD x = 0

structure CellsR (cx : Cx) (S : St) (w : World) (id : Nat) (cs : List AV) : Prop where
  fp : ∀ b, cx.fp id b ↔ b = cx.bm id
  fr : ∀ o, cx.fr (cx.bm id) o
  at_ : ∃ arr el, w.heap[cx.bm id]? = some (.cells arr el (0, 0)) ∧ (arr.size = cx.tot id ∧ cs.length = cx.tsz id ∧ cs.length ≤ arr.size) ∧
    ∀ (i : Nat) (x : AV), cs[i]? = some x → ∃ v, arr[i]? = some v ∧ ARel cx S w x v ∧ v.oneCell' = true

structure MapR (cx : Cx) (S : St) (w : World) (id : Nat) (es : MapD) : Prop where
  fp : ∀ b, cx.fp id b ↔ b = cx.bm id
  fr : ∀ o, cx.fr (cx.bm id) o
  at_ : ∃ ms clk, w.heap[cx.bm id]? = some (.map ms clk) ∧ (ms.size = es.es.length ∧ clk = es.clk ∧ ∀ (i : Nat) (p : D × AV × Nat) (m : MapEntry), es.es[i]? = some p → ms[i]? = some m → m.born = p.2.2) ∧
    ∀ (i : Nat) (p : D × AV × Nat) (m : MapEntry), es.es[i]? = some p → ms[i]? = some m → DRel w cx.fr p.1 m.key ∧ ARel cx S w p.2.1 m.val

structure TokR (cx : Cx) (w : World) (id en : Nat) : Prop where
  fp : ∀ b, cx.fp id b ↔ b = cx.bm id
  fr : ∀ o, en * cx.tsz id ≤ o → cx.fr (cx.bm id) o
  at_ : ∃ arr el fz, w.heap[cx.bm id]? = some (.cells arr el fz) ∧ arr.size = cx.tot id * cx.tsz id ∧ en ≤ cx.tot id ∧ (fz.1 = fz.2 ∨ fz.2 ≤ en * cx.tsz id)

structure SRel (R : ObjR) (cx : Cx) (S : St) (w : World) : Prop where
  wf : ∀ id, live S id → id < S.nx
  dis : ∀ id b, S.H.get id = some b → S.T.get id = none
  cells : ∀ id g cs, S.H.get id = some (.cells g cs) → CellsR cx S w id cs
  maps : ∀ id es, S.H.get id = some (.map es) → MapR cx S w id es
  objs : ∀ id k x, S.H.get id = some (.obj k x) → R k x w (cx.bm id) (cx.fp id) ∧ ∀ b o, cx.fp id b → cx.fr b o
  toks : ∀ id en, S.T.get id = some en → TokR cx w id en
  sep : ∀ id id' b, live S id → live S id' → cx.fp id b → cx.fp id' b → id = id'
  lt : ∀ b o, cx.fr b o → b < w.heap.size
  stat : R.G w cx.fr

/-- A step that leaves the abstract memory alone: old blocks stay, new ones are nobody's. -/
theorem SRel.old {R : ObjR} (hR : ObjOk R) {cx : Cx} {S : St} {w w' : World} (h : SRel R cx S w) (hs : w.heap.size ≤ w'.heap.size) (hb : ∀ b, b < w.heap.size → w'.heap[b]? = w.heap[b]?)
    (e : Ext cx S w cx S w') : SRel R cx S w' where
  wf := h.wf
  dis := h.dis
  cells := fun id g cs hg => by
    obtain ⟨a, b, arr, el, h1, h2, h3⟩ := h.cells id g cs hg
    refine ⟨a, b, arr, el, ?_, h2, fun i x hx => ?_⟩
    · rw [hb _ (h.lt _ 0 (b 0))]; exact h1
    · obtain ⟨v, v1, v2, v3⟩ := h3 i x hx
      exact ⟨v, v1, v2.mono e, v3⟩
  maps := fun id es hg => by
    obtain ⟨a, b, ms, clk, h1, h2, h3⟩ := h.maps id es hg
    refine ⟨a, b, ms, clk, ?_, h2, fun i p m hp hm => ?_⟩
    · rw [hb _ (h.lt _ 0 (b 0))]; exact h1
    · obtain ⟨v1, v2⟩ := h3 i p m hp hm
      exact ⟨v1.mono e.prot, v2.mono e⟩
  objs := fun id k x hg => by
    obtain ⟨a, b⟩ := h.objs id k x hg
    exact ⟨hR.frame k x w w' _ _ a (fun c hc => hb c ((hR.lt k x w _ _ a).1 c hc)), b⟩
  toks := fun id en hg => by
    obtain ⟨a, b, arr, el, fz, h1, h2, h3, h4⟩ := h.toks id en hg
    refine ⟨a, b, arr, el, fz, ?_, h2, h3, h4⟩
    have hlt : cx.bm id < w.heap.size := by
      rcases Nat.lt_or_ge (cx.bm id) w.heap.size with q | q
      · exact q
      · rw [Array.getElem?_eq_none q] at h1; cases h1
    rw [hb _ hlt]; exact h1
  sep := h.sep
  lt := fun b o hf => Nat.lt_of_lt_of_le (h.lt b o hf) hs
  stat := hR.stat _ _ _ _ h.stat e.prot

theorem Ext.old {R : ObjR} {cx : Cx} {S : St} {w w' : World} (h : SRel R cx S w) (hs : w.heap.size ≤ w'.heap.size) (hb : ∀ b, b < w.heap.size → w'.heap[b]? = w.heap[b]?)
    (h1 : w'.os = w.os) (h2 : w'.tape = w.tape) (h3 : w'.output = w.output) : Ext cx S w cx S w' where
  size := hs
  os := h1
  tape := h2
  output := h3
  nx := Nat.le_refl _
  prot := fun b o v hf hc => by
    refine ⟨?_, hf⟩
    have hlt : b < w.heap.size := by
      rcases Nat.lt_or_ge b w.heap.size with q | q
      · exact q
      · simp [World.cell?, Array.getElem?_eq_none q] at hc
    simp only [World.cell?] at hc ⊢
    rw [hb b hlt]; exact hc
  other := fun b hlt _ => ⟨hb b hlt, fun _ => Iff.rfl⟩
  own := fun id b hl hf => ⟨fun _ => ⟨hl, .inl hf⟩, fun hge => absurd (h.wf id hl) (by omega)⟩
  back := fun id g _ h => ⟨g, h⟩
  keep := fun _ _ _ _ _ _ h => h
  curs := fun id g _ hg => ⟨g, hg, Nat.le_refl _, fun _ => ⟨rfl, rfl, rfl⟩⟩

theorem notIt {S : St} {id : Nat} {k : Option Blk} (hg : S.H.get id = k) (hk : ∀ x, k ≠ some (.obj 3 x)) {P : Prop} {Q : Nat → Prop} (h : P ∧ ∃ g, isIt S id g ∧ Q g) : False := by
  obtain ⟨_, g, h, _⟩ := h
  unfold isIt at h
  rw [hg] at h
  exact hk _ h

theorem AL.get_cons {α : Type} (k : Nat) (v : α) (l : AL α) (n : Nat) : AL.get ((k, v) :: l) n = if k = n then some v else AL.get l n := by
  simp only [AL.get]
  by_cases h : k = n
  · subst h; simp
  · rw [if_neg h]
    have : Nat.beq k n = false := by
      cases hb : Nat.beq k n
      · rfl
      · exact absurd (Nat.eq_of_beq_eq_true hb) h
    rw [this]; rfl

theorem AL.get_del {α : Type} (l : AL α) (k n : Nat) : AL.get (AL.del l k) n = if k = n then none else AL.get l n := by
  induction l with
  | nil => simp [AL.del, AL.get]
  | cons p l ih =>
    obtain ⟨a, v⟩ := p
    simp only [AL.del]
    by_cases h : a = k
    · subst h
      simp only [Nat.beq_refl, cond_true]
      rw [ih, AL.get_cons]
      by_cases h2 : a = n <;> simp [h2]
    · have : Nat.beq a k = false := by
        cases hb : Nat.beq a k
        · rfl
        · exact absurd (Nat.eq_of_beq_eq_true hb) h
      rw [this]
      simp only [cond_false, AL.get_cons, ih]
      by_cases h2 : a = n
      · subst h2; simp [Ne.symm h]
      · simp [h2]

theorem AL.get_set {α : Type} (l : AL α) (k : Nat) (v : α) (n : Nat) : AL.get (AL.set l k v) n = if k = n then some v else AL.get l n := by
  simp only [AL.set, AL.get_cons, AL.get_del]
  by_cases h : k = n <;> simp [h]

end Go.Ev

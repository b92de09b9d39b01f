import Derived.Test.YtdelaagbhhnniaaGreatDoorEvBld
namespace Go.Ev
open Go.Shelf Go.RowKit Go.Proofs
set_option linter.unusedVariables false
set_option linter.unusedSimpArgs false

/-- A strings.Builder and what it holds. -/
def bldRel (T e : Nat) (k : Nat) (x : D) (w : World) (b : Nat) (F : Nat → Prop) : Prop :=
  k = 1 ∧ ∃ l p v, x = .str l ∧ BldAt T e b p v (Lib.byteCells l) w ∧ ∀ c, F c ↔ (c = b ∨ v.ownBlock = some c)

/-- An iterator's block. -/
def itRel (k : Nat) (w : World) (b : Nat) (F : Nat → Prop) : Prop := k = 3 ∧ b < w.heap.size ∧ ∀ c, F c ↔ c = b

/-- Objects: builders, and iterators. -/
def theR (T e : Nat) (G : World → (Nat → Nat → Prop) → Prop) : ObjR := { rel := fun k x w b F => bldRel T e k x w b F ∨ itRel k w b F, G := G }

/-- What is asked of a static fact. -/
def StatOk (G : World → (Nat → Nat → Prop) → Prop) : Prop :=
  ∀ (w w' : World) (fr fr' : Nat → Nat → Prop), G w fr → (∀ (b o : Nat) (v : Value), ¬ fr b o → w.cell? ⟨b, o, none⟩ = some v → w'.cell? ⟨b, o, none⟩ = some v ∧ ¬ fr' b o) → G w' fr'

theorem own_frame {e : Nat} {v : Value} {n : Nat} {xs : List Value} {w w' : World} (h : w.ownsRow 0 e 1 v n xs) (hk : ∀ c, v.ownBlock = some c → w'.heap[c]? = w.heap[c]?) : w'.ownsRow 0 e 1 v n xs := by
  refine ⟨h.1, ?_⟩
  rcases h.2 with q | ⟨g, cap, cur, rfl, q1, q2, q3⟩
  · exact .inl q
  · exact .inr ⟨g, cap, cur, rfl, q1, by rw [hk g rfl]; exact q2, q3⟩

theorem theR_ok {T e : Nat} {G : World → (Nat → Nat → Prop) → Prop} (hG : StatOk G) : ObjOk (theR T e G) where
  frame := fun k x w w' b F h hF => by
    rcases h with h | ⟨h1, h2, h3⟩
    · obtain ⟨hk, l, p, v, hx, ⟨h1, h2, h3, h4⟩, hf⟩ := h
      exact .inl ⟨hk, l, p, v, hx, ⟨h1, by rw [hF b ((hf b).2 (.inl rfl))]; exact h2, own_frame h3 (fun c hc => hF c ((hf c).2 (.inr hc))), h4⟩, hf⟩
    · refine .inr ⟨h1, ?_, h3⟩
      have := hF b ((h3 b).2 rfl)
      rcases Nat.lt_or_ge b w'.heap.size with q | q
      · exact q
      · rw [Array.getElem?_eq_none q, Array.getElem?_eq_getElem h2] at this; cases this
  lt := fun k x w b F h => by
    rcases h with h | ⟨h1, h2, h3⟩
    · obtain ⟨hk, l, p, v, hx, ⟨h1, h2, h3, h4⟩, hf⟩ := h
      refine ⟨fun c hc => ?_, (hf b).2 (.inl rfl)⟩
      rcases (hf c).1 hc with rfl | hc
      · rcases Nat.lt_or_ge c w.heap.size with q | q
        · exact q
        · rw [Array.getElem?_eq_none q] at h2; cases h2
      · exact (h3.lt c hc).2
    · exact ⟨fun c hc => by rw [(h3 c).1 hc]; exact h2, (h3 b).2 rfl⟩
  it := fun x w b F => by
    constructor
    · rintro (⟨h, _⟩ | ⟨_, h1, h2⟩)
      · cases h
      · exact ⟨h1, h2⟩
    · rintro ⟨h1, h2⟩
      exact .inr ⟨rfl, h1, h2⟩
  stat := hG

/-- A write onto a builder. -/
theorem bld_write {T e : Nat} {G : World → (Nat → Nat → Prop) → Prop} (hG : StatOk G) {cx : Cx} {S : St} {w w' : World} (hS : SRel (theR T e G) cx S w) {id : Nat} {l l' : List UInt8} (hk : S.H.get id = some (.obj 1 (.str l)))
    {v : Value} (hfv : ∀ c, cx.fp id c ↔ (c = cx.bm id ∨ v.ownBlock = some c)) (hp : BldPost w w' (cx.bm id) v (Lib.byteCells l') T e) :
    ∃ cx', SRel (theR T e G) cx' { S with H := S.H.set id (.obj 1 (.str l')) } w' ∧ Ext cx S w cx' { S with H := S.H.set id (.obj 1 (.str l')) } w' := by
  obtain ⟨⟨p1, p2, p3, p4⟩, v', b1, b2, b3, b4, b5⟩ := hp
  obtain ⟨o1, o2⟩ := hS.objs id _ _ hk
  let cx' : Cx := { cx with fp := fun i c => if i = id then (c = cx.bm id ∨ v'.ownBlock = some c) else cx.fp i c, fr := fun b o => (b = cx.bm id ∨ v'.ownBlock = some b) ∨ cx.fr b o }
  have hlt : ∀ c, (c = cx.bm id ∨ v'.ownBlock = some c) → c < w'.heap.size := fun c hc => by
    rcases hc with rfl | hc
    · rcases Nat.lt_or_ge (cx.bm id) w'.heap.size with q | q
      · exact q
      · rw [Array.getElem?_eq_none q] at b1; cases b1
    · exact (b2.lt c hc).2
  have hold : ∀ c, (c = cx.bm id ∨ v'.ownBlock = some c) → cx.fp id c ∨ w.heap.size ≤ c := fun c hc => by
    rcases hc with rfl | hc
    · exact .inl ((hfv _).2 (.inl rfl))
    · rcases b5 c hc with q | q
      · exact .inl ((hfv _).2 (.inr q))
      · exact .inr q
  refine ⟨cx', obj_sound (theR_ok hG) hS hk (fun k x hx => by simp [genD]) (fun g hg => by simp [isIt, AL.get_set] at hg) (fun g hg => by simp [isIt, hk] at hg) rfl rfl (fun i hi => by simp [AL.get_set, Ne.symm hi]) (.inr ⟨1, .str l', by simp [AL.get_set], .inl ⟨rfl, l', .pointer (some ⟨cx.bm id, 0, none⟩), v', rfl, ⟨.inr rfl, b1, b2, b3⟩, fun c => by simp [cx']⟩⟩)
    p4 p1 p2 p3 (fun b hb hn => b4 b hb (fun q => hn ((hfv b).2 (.inl q))) (fun q => hn ((hfv b).2 (.inr q.symm)))) (fun _ => rfl) (fun i hi b => by simp [cx', hi]) (fun _ => rfl) (fun _ => rfl)
    (fun b hb => ?_) (fun b o hb => ?_) (fun b o hf hb q => ?_) (fun b o hf => .inr hf) (fun b o hf => ?_)⟩
  · simp only [cx', if_true] at hb
    rcases hold b hb with q | q
    · exact .inl q
    · exact .inr ⟨q, hlt b hb⟩
  · simp only [cx', if_true] at hb
    exact .inl hb
  · rcases q with q | q
    · rcases hold b q with z | z
      · exact hf (o2 b o z)
      · omega
    · exact hf q
  · rcases hf with q | q
    · exact hlt b q
    · exact Nat.lt_of_lt_of_le (hS.lt b o q) p4

/-- A builder is put away. -/
theorem bld_away {T e : Nat} {G : World → (Nat → Nat → Prop) → Prop} (hG : StatOk G) {cx : Cx} {S : St} {w w' : World} (hS : SRel (theR T e G) cx S w) {id : Nat} {l : List UInt8} (hk : S.H.get id = some (.obj 1 (.str l)))
    {v : Value} (hfv : ∀ c, cx.fp id c ↔ (c = cx.bm id ∨ v.ownBlock = some c)) (hp : Kept w w' (cx.bm id) v) :
    SRel (theR T e G) cx { S with H := S.H.del id } w' ∧ Ext cx S w cx { S with H := S.H.del id } w' := by
  obtain ⟨p1, p2, p3, p4, p5⟩ := hp
  obtain ⟨o1, o2⟩ := hS.objs id _ _ hk
  exact obj_sound (theR_ok hG) hS hk (fun k x hx => by simp [genD]) (fun g hg => by simp [isIt, AL.get_del] at hg) (fun g hg => by simp [isIt, hk] at hg) rfl rfl (fun i hi => by simp [AL.get_del, Ne.symm hi]) (.inl (by simp [AL.get_del]))
    p4 p1 p2 p3 (fun b hb hn => p5 b hb (fun q => hn ((hfv b).2 (.inl q))) (fun q => hn ((hfv b).2 (.inr q.symm)))) (fun _ => rfl) (fun i hi b => Iff.rfl) (fun _ => rfl) (fun _ => rfl)
    (fun b hb => .inl hb) (fun b o hb => o2 b o hb) (fun b o hf hb q => hf q) (fun b o hf => hf) (fun b o hf => Nat.lt_of_lt_of_le (hS.lt b o hf) p4)

end Go.Ev

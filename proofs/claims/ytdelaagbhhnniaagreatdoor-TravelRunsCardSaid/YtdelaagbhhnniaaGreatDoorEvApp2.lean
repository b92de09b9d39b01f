import Derived.Test.YtdelaagbhhnniaaGreatDoorEvApp
namespace Go.Ev
set_option linter.unusedVariables false
set_option linter.unusedSimpArgs false

theorem drew_sound {R : ObjR} (hR : ObjOk R) {cx : Cx} {S : St} {w : World} (h : SRel R cx S w) : SRel R cx S w.drew ∧ Ext cx S w cx S w.drew :=
  have e : Ext cx S w cx S w.drew := Ext.old h (Nat.le_refl _) (fun _ _ => rfl) rfl rfl rfl
  ⟨SRel.old hR h (Nat.le_refl _) (fun _ _ => rfl) e, e⟩

theorem zeroCells_size (z : Array Value) (n : Nat) : (Builtin.zeroCells z n).size = n * z.size := by simp [Builtin.zeroCells]

theorem zeroOk_some {C : Cfg} {e : Nat} (h : zeroOk C e = true) : ∃ i z, C.P.info? e = some i ∧ i.zero = some z ∧ z.cells.size = i.size := by
  unfold zeroOk at h
  split at h
  · rename_i i hi
    split at h
    · rename_i z hz; exact ⟨i, z, hi, hz, by simpa using h⟩
    · cases h
  · cases h

/-- A new array: its first cells are data, the others are free. -/
theorem newtok_sound {R : ObjR} (hR : ObjOk R) {cx : Cx} {S : St} {w : World} (h : SRel R cx S w) {sz nc e : Nat} {xs : List D} {fl : List Value} {rest : Array Value} (hf : Flat w cx.fr sz xs fl) (hne : xs ≠ [])
    (hr : rest.size = (nc - xs.length) * sz) (hle : xs.length ≤ nc) :
    ∃ cx', SRel R cx' { S with T := S.T.set S.nx xs.length, nx := S.nx + 1 } (w.alloc (.cells (fl.toArray ++ rest) e)) ∧
      Ext cx S w cx' { S with T := S.T.set S.nx xs.length, nx := S.nx + 1 } (w.alloc (.cells (fl.toArray ++ rest) e)) ∧
      ARel cx' { S with T := S.T.set S.nx xs.length, nx := S.nx + 1 } (w.alloc (.cells (fl.toArray ++ rest) e)) (.tsl xs S.nx) (.slice (some ⟨w.heap.size, 0, none⟩) xs.length nc) := by
  obtain ⟨nH, nT⟩ := not_live_nx h
  have hH : ∀ id, id ≠ S.nx → ({ S with T := S.T.set S.nx xs.length, nx := S.nx + 1 } : St).H.get id = S.H.get id := fun _ _ => rfl
  have hT : ∀ id, id ≠ S.nx → ({ S with T := S.T.set S.nx xs.length, nx := S.nx + 1 } : St).T.get id = S.T.get id := fun id hid => by simp [AL.get_set, Ne.symm hid]
  have hc : ∀ id, id ≠ S.nx → cur { S with T := S.T.set S.nx xs.length, nx := S.nx + 1 } id = cur S id := fun id hid => by unfold cur; rw [hH id hid, hT id hid]
  have hcn : cur { S with T := S.T.set S.nx xs.length, nx := S.nx + 1 } S.nx = some xs.length := by unfold cur; simp [nH, AL.get_set]
  have ext := Ext.fresh (S' := { S with T := S.T.set S.nx xs.length, nx := S.nx + 1 }) h (.cells (fl.toArray ++ rest) e) sz nc (fun o => xs.length * sz ≤ o) rfl hc hH
  refine ⟨cx.new S.nx w.heap.size sz nc (fun o => xs.length * sz ≤ o), SRel.fresh hR h _ sz nc _ rfl hH hT (fun b hb => ?_) (fun g cs hg => ?_) (fun es hg => ?_) (fun k x hg => ?_) (fun en hg => ?_), ext, ?_⟩
  · have : S.H.get S.nx = some b := hb
    rw [nH] at this; cases this
  · have : S.H.get S.nx = some _ := hg
    rw [nH] at this; cases this
  · have : S.H.get S.nx = some _ := hg
    rw [nH] at this; cases this
  · have : S.H.get S.nx = some _ := hg
    rw [nH] at this; cases this
  · have : en = xs.length := by simpa [AL.get_set] using hg.symm
    subst this
    refine ⟨fun b => by simp [Cx.new], fun o ho => by simp only [Cx.new, if_true] at ho ⊢; exact .inl ⟨trivial, ho⟩, fl.toArray ++ rest, e, (0, 0), by simp only [Cx.new, if_true]; exact heap_alloc_new w _, ?_, by simp [Cx.new]; exact hle, .inl rfl⟩
    simp only [Cx.new, if_true]
    simp only [Array.size_append, List.size_toArray, hf.len, hr]
    rw [← Nat.add_mul]
    congr 1; omega
  · refine .tsl xs S.nx w.heap.size 0 nc ⟨Nat.lt_succ_self _, fun g' hg => by rw [hcn] at hg; simp at hg; omega⟩ ((hf.mono ext.prot).slice (fun i v hi => ⟨?_, ?_⟩) hle) (fun _ => ?_)
    · rw [cell_of (heap_alloc_new w _)]
      have hlt := (List.getElem?_eq_some_iff.1 hi).1
      rw [Array.getElem?_append_left (by simpa using hlt)]
      simpa using hi
    · have hlt := (List.getElem?_eq_some_iff.1 hi).1
      rw [hf.len] at hlt
      simp only [Cx.new]
      rintro (⟨_, q⟩ | q)
      · omega
      · have := h.lt _ _ q; omega
    · simp only [Cx.new, if_true]
      exact ⟨trivial, trivial, trivial, hf.szs⟩

theorem append_new {R : ObjR} (hR : ObjOk R) {C : Cfg} {cx : Cx} {S : St} {w : World} (h : SRel R cx S w) {t t2 e ty : Nat} {xs ys : List D} {v u : Value} {fs : List Value} (he : elemSl C.P t = some e) (h2 : okSrc C t2 = true)
    (hx : DRel w cx.fr (.sl xs true) v) (hu : (Builtin.lenOf u).run C.P w = .ok ys.length w) (hsrc : ∀ w', w'.heap = w.heap → (Builtin.firstCells (szOf C.P e) ys.length u).run C.P w' = .ok fs.toArray w') (hfs : Flat w cx.fr (szOf C.P e) ys fs) (hn : ys.length ≠ 0)
    (hb : (xs.length + ys.length) * bytesOf C.P e ≤ bound) (hb0 : 0 < bytesOf C.P e) (hb1 : bytesOf C.P e ≤ 65536) (hsx : sizes (szOf C.P e) xs = true) (hz : zeroOk C e = true) :
    ∃ cx' w' r, (Builtin.append_ #[t, t2] ty #[v, u]).run C.P w = .ok r w' ∧ SRel R cx' { S with T := S.T.set S.nx (xs.length + ys.length), nx := S.nx + 1 } w' ∧
      Ext cx S w cx' { S with T := S.T.set S.nx (xs.length + ys.length), nx := S.nx + 1 } w' ∧ ARel cx' { S with T := S.T.set S.nx (xs.length + ys.length), nx := S.nx + 1 } w' (.tsl (xs ++ ys) S.nx) r := by
  obtain ⟨ie, z, hi, hz0, hzs⟩ := zeroOk_some hz
  have hse : szOf C.P e = ie.size := by simp [szOf, hi]
  have hbe : bytesOf C.P e = ie.bytes := by simp [bytesOf, hi]
  obtain ⟨a, cap, rfl, hcap, ht, _⟩ := slI hx
  have hc := ht rfl
  subst hc
  obtain ⟨hd1, hd2⟩ := drew_sound hR h
  obtain ⟨fl, f1, f2, f3⟩ := first_sound (P := C.P) (hx.mono hd2.prot) hsx
  obtain ⟨nc, n1, n63, n2⟩ := run_append_grows (w := w) (ty := ty) (sLen := xs.length) (sCap := xs.length) (n := ys.length) (base := a) (u := u) (elemSl_some he) hi h2 hu (by omega) (by rw [← hbe]; exact hb0) (by rw [← hbe]; exact hb1) (by rw [← hbe]; exact hb) hz0 (by rw [← hse]; exact f1) (by rw [← hse]; exact hsrc _ rfl)
  have hflat : Flat w.drew cx.fr (szOf C.P e) (xs ++ ys) (fl ++ fs) := f2.append (hfs.mono hd2.prot)
  have hlen : (xs ++ ys).length = xs.length + ys.length := by simp
  obtain ⟨cx', k1, k2, k3⟩ := newtok_sound hR hd1 (nc := nc) (e := e) (rest := Builtin.zeroCells z.cells (nc - (xs.length + ys.length))) hflat (by intro q; simp at q; exact hn (by simp [q.2])) (by rw [zeroCells_size, hzs, hlen, hse]) (by rw [hlen]; exact n1)
  have hdz : S.nx = ({ S with } : St).nx := rfl
  rw [hlen] at k1 k2 k3
  have harr : fl.toArray ++ fs.toArray ++ Builtin.zeroCells z.cells (nc - (xs.length + ys.length)) = (fl ++ fs).toArray ++ Builtin.zeroCells z.cells (nc - (xs.length + ys.length)) := by simp
  rw [harr] at n2
  exact ⟨cx', _, _, n2, k1, hd2.trans k2, k3⟩

/-- A slice that one has built oneself goes on. -/
theorem append_tok {R : ObjR} (hR : ObjOk R) {C : Cfg} {cx : Cx} {S : St} {w : World} (h : SRel R cx S w) {t t2 e ty tok : Nat} {xs ys : List D} {v u : Value} {fs : List Value} (he : elemSl C.P t = some e) (h2 : okSrc C t2 = true)
    (hx : ARel cx S w (.tsl xs tok) v) (hx0 : xs ≠ []) (hT : S.T.get tok = some xs.length) (hu : (Builtin.lenOf u).run C.P w = .ok ys.length w) (hsrc : ∀ w', w'.heap = w.heap → (Builtin.firstCells (szOf C.P e) ys.length u).run C.P w' = .ok fs.toArray w')
    (hfs : Flat w cx.fr (szOf C.P e) ys fs) (hn : ys.length ≠ 0)
    (hb : (xs.length + ys.length) * bytesOf C.P e ≤ bound) (hb0 : 0 < bytesOf C.P e) (hb1 : bytesOf C.P e ≤ 65536) (hsx : sizes (szOf C.P e) xs = true) (hz : zeroOk C e = true) :
    ∃ cx' w' r, (Builtin.append_ #[t, t2] ty #[v, u]).run C.P w = .ok r w' ∧ SRel R cx' { S with T := S.T.set tok (xs.length + ys.length) } w' ∧
      Ext cx S w cx' { S with T := S.T.set tok (xs.length + ys.length) } w' ∧ ARel cx' { S with T := S.T.set tok (xs.length + ys.length) } w' (.tsl (xs ++ ys) tok) r := by
  obtain ⟨ie, z, hi, hz0, hzs⟩ := zeroOk_some hz
  have hse : szOf C.P e = ie.size := by simp [szOf, hi]
  have hbe : bytesOf C.P e = ie.bytes := by simp [bytesOf, hi]
  obtain ⟨hcu, hHn⟩ := cur_T h hT
  cases hx with
  | tsl _ _ b off cap hnm hdx hp =>
    obtain ⟨p1, p2, p3, p4⟩ := hp hcu
    subst p1; subst p2; subst p3
    obtain ⟨t1, tf, tarr, tel, tfz, t3, t4, t5, t6⟩ := h.toks tok _ hT
    have hlen : (xs ++ ys).length = xs.length + ys.length := by simp
    have hcurn : cur { S with T := S.T.set tok (xs.length + ys.length) } tok = some (xs.length + ys.length) := by unfold cur; simp [hHn, AL.get_set]
    have hszx : ∀ x ∈ xs ++ ys, x.cells.length = szOf C.P e := fun x hx => (List.mem_append.1 hx).elim (sizes_all hsx x) (hfs.szs x)
    have hnm' : Names { S with T := S.T.set tok (xs.length + ys.length) } tok (xs ++ ys).length := ⟨hnm.1, fun g' hg => by rw [hcurn] at hg; simp at hg; omega⟩
    have htsz : cx.tsz tok = szOf C.P e := by
      cases xs with
      | nil => exact absurd rfl hx0
      | cons x xs => rw [← p4 x (by simp)]; exact sizes_all hsx x (by simp)
    by_cases hfit : xs.length + ys.length ≤ cx.tot tok
    · -- in place
      have hrun := run_append_fits (w := w) (ty := ty) (sLen := xs.length) (sCap := cx.tot tok) (n := ys.length) (base := some ⟨cx.bm tok, 0, none⟩) (u := u) (elemSl_some he) hi h2 hu hfit (by rw [← hse]; exact hsrc w rfl)
      have hsize : xs.length * szOf C.P e + fs.length ≤ tarr.size := by
        rw [t4, htsz, hfs.len, ← Nat.add_mul]; exact Nat.mul_le_mul_right _ hfit
      obtain ⟨w', r1, r2, r3, r4, r5, r6, r7, r8⟩ := storeCells_at (P := C.P) fs w (cx.bm tok) (xs.length * szOf C.P e) 0 tarr tel tfz t3 hfs.one (by omega) (by rw [htsz] at t6; simpa using t6)
      let cx' : Cx := { cx with fr := fun b o => cx.fr b o ∧ ¬ (b = cx.bm tok ∧ o < (xs.length + ys.length) * szOf C.P e) }
      have hcellkeep : ∀ (b o : Nat) (v : Value), ¬ cx.fr b o → w.cell? ⟨b, o, none⟩ = some v → w'.cell? ⟨b, o, none⟩ = some v := by
        intro b o v hf hc
        by_cases hb' : b = cx.bm tok
        · subst hb'
          have ho : o < xs.length * szOf C.P e := by
            rcases Nat.lt_or_ge o (xs.length * szOf C.P e) with q | q
            · exact q
            · exact absurd (tf o (by rw [htsz]; exact q)) hf
          rw [cell_of t3] at hc
          rw [cell_of r8, List.getElem?_toArray, setAt_get _ _ _ _ (by simp; omega), if_neg (by omega)]
          simpa using hc
        · exact cell_old (r3 b hb') hc
      have hnew : TokR cx' w' tok (xs.length + ys.length) := by
        refine ⟨t1, fun o ho => ⟨tf o (Nat.le_trans (Nat.mul_le_mul_right _ (by omega)) ho), fun q => ?_⟩, _, tel, tfz, r8, ?_, hfit, ?_⟩
        · have : (xs.length + ys.length) * cx.tsz tok ≤ o := ho
          rw [htsz] at this
          omega
        · simp only [List.size_toArray, setAt_length, Array.length_toList]; exact t4
        · rcases t6 with q | q
          · exact .inl q
          · exact .inr (Nat.le_trans q (Nat.mul_le_mul_right _ (by omega)))
      obtain ⟨k1, k2⟩ := tok_sound hR (cx' := cx') h hT (by omega) (by omega) r4 r5 r6 (fun b _ hb' => r3 b hb') hcellkeep (fun _ _ => rfl) (fun _ _ _ => Iff.rfl) (fun _ _ => rfl) (fun _ _ => rfl)
        (fun b hb' => .inl ((t1 b).1 hb')) (fun b o hf _ q => hf q.1) (fun b o hb' hf => ⟨hf, fun q => hb' q.1⟩) (fun b o q => by rw [r2]; exact h.lt b o q.1) hnew
      refine ⟨cx', w', .slice (some ⟨cx.bm tok, 0, none⟩) (xs.length + ys.length) (cx.tot tok), ?_, k1, k2, ?_⟩
      · rw [hrun]
        simp only [add_at, Nat.zero_add]
        rw [hse] at r1
        rw [r1]; rfl
      · obtain ⟨fl, f1, f2, f3⟩ := first_sound (P := C.P) hdx hsx
        have hflat : Flat w' cx'.fr (szOf C.P e) (xs ++ ys) (fl ++ fs) := (f2.append hfs).mono k2.prot
        have hA := ARel.tsl (cx := cx') (S := { S with T := S.T.set tok (xs.length + ys.length) }) (w := w') (xs ++ ys) tok (cx.bm tok) 0 (cx.tot tok) hnm' (hflat.slice (fun i v hv => ?_) (by rw [hlen]; exact hfit)) (fun _ => ⟨rfl, rfl, rfl, fun x hx => by show _ = cx.tsz tok; rw [htsz]; exact hszx x hx⟩)
        · rw [hlen] at hA; exact hA
        · have hil := (List.getElem?_eq_some_iff.1 hv).1
          simp only [List.length_append, f2.len, hfs.len] at hil
          rw [← Nat.add_mul] at hil
          refine ⟨?_, fun q => q.2 ⟨rfl, hil⟩⟩
          rw [cell_of r8, List.getElem?_toArray, Nat.add_zero, setAt_get _ _ _ _ (by simp; omega)]
          rw [List.getElem?_append] at hv
          by_cases hlt : i < fl.length
          · rw [if_pos hlt] at hv
            rw [if_neg (by rw [← f2.len]; omega)]
            have hrd := f3 (cx.bm tok) 0 _ _ rfl i v hv
            rw [Nat.zero_add, cell_of t3] at hrd
            simpa using hrd
          · rw [if_neg hlt] at hv
            rw [if_pos (by rw [← f2.len]; refine ⟨by omega, ?_⟩; have := (List.getElem?_eq_some_iff.1 hv).1; omega)]
            rw [← f2.len]; exact hv
    · -- a new array
      obtain ⟨hd1, hd2⟩ := drew_sound hR h
      obtain ⟨fl, f1, f2, f3⟩ := first_sound (P := C.P) (hdx.mono hd2.prot) hsx
      obtain ⟨nc, n1, n63, n2⟩ := run_append_grows (w := w) (ty := ty) (sLen := xs.length) (sCap := cx.tot tok) (n := ys.length) (base := some ⟨cx.bm tok, 0, none⟩) (u := u) (elemSl_some he) hi h2 hu (by omega) (by rw [← hbe]; exact hb0) (by rw [← hbe]; exact hb1) (by rw [← hbe]; exact hb) hz0 (by rw [← hse]; exact f1) (by rw [← hse]; exact hsrc _ rfl)
      let cx' : Cx := { bm := fun i => if i = tok then w.heap.size else cx.bm i, fp := fun i b => if i = tok then b = w.heap.size else cx.fp i b, tsz := cx.tsz, tot := fun i => if i = tok then nc else cx.tot i,
                        fr := fun b o => (b = w.heap.size ∧ (xs.length + ys.length) * szOf C.P e ≤ o) ∨ cx.fr b o }
      have hsz0 : w.drew.heap.size = w.heap.size := rfl
      have harr : fl.toArray ++ fs.toArray ++ Builtin.zeroCells z.cells (nc - (xs.length + ys.length)) = (fl ++ fs).toArray ++ Builtin.zeroCells z.cells (nc - (xs.length + ys.length)) := by simp
      rw [harr] at n2
      have hblk : (w.drew.alloc (.cells ((fl ++ fs).toArray ++ Builtin.zeroCells z.cells (nc - (xs.length + ys.length))) e)).heap[w.heap.size]? = some (.cells ((fl ++ fs).toArray ++ Builtin.zeroCells z.cells (nc - (xs.length + ys.length))) e) := heap_alloc_new w.drew _
      have hfl : (fl ++ fs).length = (xs.length + ys.length) * szOf C.P e := by rw [List.length_append, f2.len, hfs.len, Nat.add_mul]
      have hnew : TokR cx' (w.drew.alloc (.cells ((fl ++ fs).toArray ++ Builtin.zeroCells z.cells (nc - (xs.length + ys.length))) e)) tok (xs.length + ys.length) := by
        refine ⟨fun b => by simp [cx'], fun o ho => .inl ⟨by simp [cx'], by rw [← htsz]; exact ho⟩, _, e, (0, 0), by simp only [cx', if_true]; exact hblk, ?_, by simp only [cx', if_true]; exact n1, .inl rfl⟩
        simp only [Array.size_append, List.size_toArray, hfl, zeroCells_size, hzs, cx', if_true, htsz, ← hse]
        rw [← Nat.add_mul]; congr 1; omega
      obtain ⟨k1, k2⟩ := tok_sound hR (cx' := cx') (w' := w.drew.alloc (.cells ((fl ++ fs).toArray ++ Builtin.zeroCells z.cells (nc - (xs.length + ys.length))) e)) h hT (en' := xs.length + ys.length) (by omega) (by rw [size_alloc]; omega) rfl rfl rfl
        (fun b hb' _ => heap_alloc_old w.drew _ hb') (fun b o v _ hc => cell_old (heap_alloc_old w.drew _ (cell_lt hc)) hc) (fun i hi => by simp [cx', hi]) (fun i hi b => by simp [cx', hi]) (fun _ _ => rfl) (fun i hi => by simp [cx', hi])
        (fun b hb' => .inr (by simp only [cx', if_true] at hb'; subst hb'; rw [size_alloc]; exact ⟨Nat.le_refl _, Nat.lt_succ_self _⟩))
        (fun b o hf hlt q => q.elim (fun q => absurd q.1 (by omega)) (fun q => hf q)) (fun b o _ hf => .inr hf) (fun b o q => by rw [size_alloc]; exact q.elim (fun q => by rw [q.1]; exact Nat.lt_succ_self _) (fun q => Nat.lt_succ_of_lt (h.lt b o q))) hnew
      refine ⟨cx', _, _, n2, k1, k2, ?_⟩
      have f2' : Flat w cx.fr (szOf C.P e) xs fl := Flat.mono (w := w.drew) (w' := w) (fun b o v q1 q2 => ⟨q2, q1⟩) f2
      have hflat : Flat (w.drew.alloc (.cells ((fl ++ fs).toArray ++ Builtin.zeroCells z.cells (nc - (xs.length + ys.length))) e)) cx'.fr (szOf C.P e) (xs ++ ys) (fl ++ fs) := (f2'.append hfs).mono k2.prot
      have hA := ARel.tsl (cx := cx') (S := { S with T := S.T.set tok (xs.length + ys.length) }) (w := w.drew.alloc (.cells ((fl ++ fs).toArray ++ Builtin.zeroCells z.cells (nc - (xs.length + ys.length))) e))
        (xs ++ ys) tok w.heap.size 0 nc hnm' (hflat.slice (fun i v hv => ?_) (by rw [hlen]; exact n1)) (fun _ => ⟨by simp [cx'], rfl, by simp [cx'], fun x hx => by show _ = cx.tsz tok; rw [htsz]; exact hszx x hx⟩)
      · rw [hlen] at hA; exact hA
      · have hil := (List.getElem?_eq_some_iff.1 hv).1
        refine ⟨?_, fun q => ?_⟩
        · rw [cell_of hblk, Array.getElem?_append_left (by simpa using hil)]
          simpa using hv
        · rcases q with ⟨_, q⟩ | q
          · rw [hfl] at hil; omega
          · have := h.lt _ _ q; omega

end Go.Ev

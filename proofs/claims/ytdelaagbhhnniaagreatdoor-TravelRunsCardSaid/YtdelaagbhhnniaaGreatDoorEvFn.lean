import Derived.Test.YtdelaagbhhnniaaGreatDoorEvCode
import Derived.Below
namespace Go.Ev
set_option linter.unusedVariables false
set_option linter.unusedSimpArgs false

theorem enterE_get : ∀ (l : List AV) (k t : Nat), AL.get (enterE k l) t = if k ≤ t then l[t - k]? else none
  | [], k, t => by simp [enterE, AL.get]
  | v :: l, k, t => by
    simp only [enterE]
    rw [AL.get_cons, enterE_get l (k + 1) t]
    by_cases h : k = t
    · subst h; simp
    · by_cases h2 : k ≤ t
      · rw [if_neg h, if_pos (by omega), if_pos h2, show t - k = (t - (k + 1)) + 1 by omega]; simp
      · rw [if_neg h, if_neg (by omega), if_neg h2]

def resSem (tmps : Array Value) : ResultVar → Sem Value
  | .tmp t => pure (tmps.getD t undef)
  | .cell b t => do loadVar t (← asAddr (tmps.getD b undef))

theorem res_sound {R : ObjR} {C : Cfg} {cx : Cx} {S : St} {w : World} (hS : SRel R cx S w) {nt : Nat} {e : Env} {a : Act} (he : ERel cx S w nt e a) {rv : ResultVar} {v : AV} (h : resOf C e S rv = some v) :
    ∃ u, (resSem a.tmps rv).run C.P w = .ok u w ∧ ARel cx S w v u := by
  cases rv with
  | tmp t =>
    simp only [resOf] at h
    obtain ⟨u, h1, h2⟩ := he.rel t v h
    exact ⟨u, by simp [resSem, h1], h2⟩
  | cell b t =>
    simp only [resOf] at h
    split at h
    · rename_i p hp
      obtain ⟨u, h1, h2⟩ := he.rel b p hp
      obtain ⟨z, z1, z2⟩ := load_sound (C := C) hS h h2
      refine ⟨z, ?_, z2⟩
      have hu : a.tmps.getD b undef = u := by simp [h1]
      simp only [resSem, hu]
      unfold opLoad at h
      cases h2 with
      | ptr id g off bb hn hq => simp only [asAddr, Sem.run_bind, Sem.run_pure, Result.andThen_ok]; rw [run_loadAt] at z1; exact z1
      | eptr x off bb o vs hc hm => simp only [asAddr, Sem.run_bind, Sem.run_pure, Result.andThen_ok]; rw [run_loadAt] at z1; exact z1
      | _ => simp at h
    · cases h

theorem mapM_run {P : Program} {w : World} {α : Type} {f : α → Sem Value} : ∀ (l : List α) (us : List Value), us.length = l.length → (∀ (i : Nat) (x : α) (u : Value), l[i]? = some x → us[i]? = some u → (f x).run P w = .ok u w) → (l.mapM f).run P w = .ok us w
  | [], [], _, _ => by simp
  | [], _ :: _, h, _ => by simp at h
  | _ :: _, [], h, _ => by simp at h
  | x :: l, u :: us, hl, h => by
    have h0 := h 0 x u rfl rfl
    have ih := mapM_run (P := P) (w := w) (f := f) l us (by simpa using hl) (fun i x u hx hu => h (i + 1) x u (by simpa using hx) (by simpa using hu))
    simp [List.mapM_cons, h0, ih]

theorem results_sound {R : ObjR} {C : Cfg} {cx : Cx} {S : St} {w : World} (hS : SRel R cx S w) {nt : Nat} {e : Env} {a : Act} (he : ERel cx S w nt e a) {fn : Func} {v : AV} (h : resultsE C fn e S = some v) :
    ∃ u, (results fn a.tmps).run C.P w = .ok u w ∧ ARel cx S w v u := by
  unfold resultsE at h
  have key : ∀ {l : List ResultVar} {vs : List AV}, mapO (resOf C e S) l = some vs → ∃ us : List Value, us.length = vs.length ∧ (l.mapM (resSem a.tmps)).run C.P w = .ok us w ∧ ∀ (i : Nat) (x : AV) (u : Value), vs[i]? = some x → us[i]? = some u → ARel cx S w x u := by
    intro l
    induction l with
    | nil => intro vs h; simp [mapO] at h; subst h; exact ⟨[], rfl, by simp, by simp⟩
    | cons rv l ih =>
      intro vs h
      simp only [mapO] at h
      split at h
      · rename_i y hy
        simp only [Option.map_eq_some_iff] at h
        obtain ⟨ys, hys, rfl⟩ := h
        obtain ⟨us, u1, u2, u3⟩ := ih hys
        obtain ⟨u, r1, r2⟩ := res_sound hS he hy
        refine ⟨u :: us, by simp [u1], ?_, fun i x z hx hz => ?_⟩
        · rw [List.mapM_cons]
          simp only [Sem.run_bind]
          rw [r1]
          simp only [Result.andThen_ok]
          rw [u2]
          rfl
        · cases i with
          | zero => simp at hx hz; subst hx; subst hz; exact r2
          | succ i => exact u3 i x z (by simpa using hx) (by simpa using hz)
      · cases h
  have run : ∀ {us : List Value}, (fn.results.toList.mapM (resSem a.tmps)).run C.P w = .ok us w → (results fn a.tmps).run C.P w = .ok (if h : us.toArray.size = 1 then us.toArray[0] else .tuple us.toArray) w := by
    intro us hu
    have hres : results fn a.tmps = (do let vs ← fn.results.mapM (resSem a.tmps); pure (if h : vs.size = 1 then vs[0] else .tuple vs)) := rfl
    rw [hres, Array.mapM_eq_mapM_toList]
    simp only [Sem.run_bind, Sem.run_map, hu, Result.andThen_ok]
    rfl
  split at h
  · rename_i x hx
    simp only [Option.some.injEq] at h; subst h
    obtain ⟨us, u1, u2, u3⟩ := key hx
    match us, u1 with
    | [u], _ => exact ⟨u, by rw [run u2]; rfl, u3 0 x u rfl rfl⟩
  · rename_i vs hne hx
    simp only [Option.some.injEq] at h; subst h
    obtain ⟨us, u1, u2, u3⟩ := key hx
    refine ⟨.tuple us.toArray, ?_, .tup vs us u1 u3⟩
    rw [run u2, dif_neg]
    intro q
    simp at q
    rw [u1] at q
    match vs, q with
    | [x], _ => exact hne x rfl
  · cases h

structure CfgOk (R : ObjR) (C : Cfg) : Prop where
  obj : ObjOkC R C
  mixed : C.P.follows .mixedOrders = true
  code : ∀ f fn c, C.good f = true → C.P.funcs[f]? = some fn → fn.body = some c → codeOk c = true ∧ fn.name ≠ "runtime.NumGoroutine"
  primPure : ∀ f args S v S', C.hasPrim f = true → C.prim f args S = some (v, S') → (toDs args).isSome = true → (toDT v).isSome = true → ∀ S2, C.prim f args S2 = some (v, S2)
  prim : ∀ f args S v S', C.hasPrim f = true → C.prim f args S = some (v, S') → (∃ fn, C.P.funcs[f]? = some fn ∧ fn.body.isSome = true ∧ fn.name ≠ "runtime.NumGoroutine") ∧
    ∀ cx w (us : List Value), SRel R cx S w → us.length = args.length → (∀ (i : Nat) (x : AV) (u : Value), args[i]? = some x → us[i]? = some u → ARel cx S w x u) →
    Calls C.P f us.toArray w (fun e w' => ∃ cx', SRel R cx' S' w' ∧ Ext cx S w cx' S' w' ∧ ∃ u, e = .returned u ∧ ARel cx' S' w' v u)

theorem body_sound {R : ObjR} {C : Cfg} (ok : CfgOk R C) {h : HandL} (hh : HandOkL R C.P h) (hpu : PureOk (det h)) (n : Nat) {f : Nat} {args : List AV} {S : St} {os : List Out} (hb : bodyE C h n f args S = some os) :
    (∃ fn, C.P.funcs[f]? = some fn ∧ fn.body.isSome = true ∧ fn.name ≠ "runtime.NumGoroutine") ∧
    ∀ cx w (us : List Value), SRel R cx S w → us.length = args.length → (∀ (i : Nat) (x : AV) (u : Value), args[i]? = some x → us[i]? = some u → ARel cx S w x u) →
    Calls C.P f us.toArray w (fun e w' => ∃ r ∈ os, ∃ cx', SRel R cx' r.2.2 w' ∧ Ext cx S w cx' r.2.2 w' ∧
      EndOk cx' r.2.2 w' r.1 r.2.1 e) := by
  unfold bodyE at hb
  split at hb
  · rename_i fn hf
    split at hb
    · rename_i c hc
      cases hg : (C.good f && Nat.ble args.length fn.ntmps) with
      | false => rw [hg] at hb; cases hb
      | true =>
        rw [hg] at hb
        simp only [cond_true] at hb
        simp only [Bool.and_eq_true] at hg
        obtain ⟨hg, hle⟩ := hg
        have hle := Nat.le_of_ble_eq_true hle
        obtain ⟨hcode, hname⟩ := ok.code f fn c hg hf hc
        refine ⟨⟨fn, hf, by simp [hc], hname⟩, fun cx w us hS hl hr => ?_⟩
        refine calls_of_wp hf hc ?_
        have he : ERel cx S w fn.ntmps (enterE 0 args) { tmps := us.toArray ++ Array.replicate (fn.ntmps - us.toArray.size) undef, defers := [] } := by
          refine ⟨by simp; omega, fun t x hx => ?_⟩
          rw [enterE_get] at hx
          simp only [Nat.zero_le, if_true, Nat.sub_zero] at hx
          have hlt : t < us.length := by rw [hl]; exact (List.getElem?_eq_some_iff.1 hx).1
          have hu := List.getElem?_eq_getElem hlt
          exact ⟨us[t], by rw [Array.getElem?_append_left (by simpa using hlt)]; simp, hr t x _ hx hu⟩
        split at hb
        · rename_i rs hev
          refine evC_sound ok.obj ok.mixed hh hpu c hcode cx S w _ _ rs _ hev hS he (fun r hr => ?_)
          obtain ⟨out, ho, hm⟩ := mapO_mem hb r hr
          obtain ⟨x, e, S1⟩ := r
          cases x with
          | normal =>
            simp only [outOf, Option.map_eq_some_iff] at ho
            obtain ⟨rv, hrv, rfl⟩ := ho
            intro cx' a' w' q1 q2 q3 q4
            obtain ⟨u, r1, r2⟩ := results_sound q1 q3 hrv
            exact ⟨q4, u, r1, _, hm, cx', q1, q2, u, rfl, r2⟩
          | ret =>
            simp only [outOf, Option.map_eq_some_iff] at ho
            obtain ⟨rv, hrv, rfl⟩ := ho
            intro cx' a' w' q1 q2 q3 q4
            obtain ⟨u, r1, r2⟩ := results_sound q1 q3 hrv
            exact ⟨q4, u, r1, _, hm, cx', q1, q2, u, rfl, r2⟩
          | panic pv =>
            simp only [outOf, Option.some.injEq] at ho
            subst ho
            intro cx' a' w' u q1 q2 q3 q4
            exact ⟨q4, _, hm, cx', q1, q2, u, rfl, q3⟩
          | exit id => simp [outOf] at ho
        · cases hb
    · cases hb
  · cases hb

theorem optSame_eq {x y : Option AV} (h : optSame x y = true) : x = y := by
  unfold optSame at h
  split at h
  · rfl
  · rw [AV.same_eq _ _ h]
  · cases h

theorem dedup_mem : ∀ {l : List (Option AV × AV)}, ∀ x ∈ l, x ∈ dedup l
  | [], x, hx => by cases hx
  | y :: l, x, hx => by
    simp only [dedup]
    rcases List.mem_cons.1 hx with rfl | hx
    · cases hh : hasOut l x with
      | false => simp
      | true =>
        simp only [cond_true]
        unfold hasOut at hh
        rw [List.any_eq_true] at hh
        obtain ⟨z, hz, hs⟩ := hh
        simp only [Bool.and_eq_true] at hs
        have : x = z := Prod.ext (optSame_eq hs.1) (AV.same_eq _ _ hs.2)
        subst this
        exact dedup_mem x hz
    · cases hh : hasOut l y with
      | false => exact List.mem_cons_of_mem _ (dedup_mem x hx)
      | true => exact dedup_mem x hx

theorem pure_rel {R : ObjR} {cx : Cx} {S : St} {w : World} (h : SRel R cx S w) : SRel R cx pureSt w where
  wf := fun id hl => absurd rfl hl
  dis := fun id b hb => by simp [pureSt, AL.get] at hb
  cells := fun id g cs hb => by simp [pureSt, AL.get] at hb
  maps := fun id es hb => by simp [pureSt, AL.get] at hb
  objs := fun id k x hb => by simp [pureSt, AL.get] at hb
  toks := fun id en hb => by simp [pureSt, AL.get] at hb
  sep := fun id id' b hl => absurd rfl hl
  stat := h.stat
  lt := h.lt

theorem pure_back {R : ObjR} (hR : ObjOk R) {cx cx1 : Cx} {S S1 : St} {w w1 : World} (h : SRel R cx S w) (e : Ext cx pureSt w cx1 S1 w1) :
    SRel R cx S w1 ∧ Ext cx S w cx S w1 ∧ ∀ x v, DRel w1 cx1.fr x v → DRel w1 cx.fr x v := by
  have hb : ∀ b, b < w.heap.size → w1.heap[b]? = w.heap[b]? ∧ ∀ o, (cx1.fr b o ↔ cx.fr b o) := fun b hb => e.other b hb (fun id hl => absurd rfl hl)
  have ex : Ext cx S w cx S w1 := Ext.old h e.size (fun b q => (hb b q).1) e.os e.tape e.output
  refine ⟨SRel.old hR h e.size (fun b q => (hb b q).1) ex, ex, fun x v hd => hd.mono (fun b o v hf hc => ⟨hc, fun q => ?_⟩)⟩
  have hlt := h.lt b o q
  exact hf (((hb b hlt).2 o).2 q)

theorem sameBlk_eq {x y : Blk} (h : sameBlk x y = true) : x = y := by
  unfold sameBlk at h
  split at h
  · simp only [Bool.and_eq_true] at h
    rw [Nat.eq_of_beq_eq_true h.1, AV.sames_eq _ _ h.2]
  · rename_i m m'
    simp only [Bool.and_eq_true] at h
    obtain ⟨es, c⟩ := m
    obtain ⟨es', c'⟩ := m'
    simp only at h
    rw [Nat.eq_of_beq_eq_true h.1, sameEs_eq _ _ h.2]
  · simp only [Bool.and_eq_true] at h
    rw [Nat.eq_of_beq_eq_true h.1, D.same_eq _ _ h.2]
  · cases h
theorem sameH_eq : ∀ {x y : AL Blk}, sameH x y = true → x = y
  | [], [], _ => rfl
  | [], _ :: _, h => by cases h
  | _ :: _, [], h => by cases h
  | (k, b) :: l, (k', b') :: l', h => by
    simp only [sameH, Bool.and_eq_true] at h
    rw [Nat.eq_of_beq_eq_true h.1.1, sameBlk_eq h.1.2, sameH_eq h.2]
theorem sameT_eq : ∀ {x y : AL Nat}, sameT x y = true → x = y
  | [], [], _ => rfl
  | [], _ :: _, h => by cases h
  | _ :: _, [], h => by cases h
  | (k, b) :: l, (k', b') :: l', h => by
    simp only [sameT, Bool.and_eq_true] at h
    rw [Nat.eq_of_beq_eq_true h.1.1, Nat.eq_of_beq_eq_true h.1.2, sameT_eq h.2]
theorem sameOut_eq {x y : Out} (h : sameOut x y = true) : x = y := by
  obtain ⟨p, v, H, T, nx⟩ := x
  obtain ⟨p', v', H', T', nx'⟩ := y
  simp only [sameOut, Bool.and_eq_true] at h
  rw [optSame_eq h.1.1.1.1, AV.same_eq _ _ h.1.1.1.2, Nat.eq_of_beq_eq_true h.1.1.2, sameT_eq h.1.2, sameH_eq h.2]
theorem dedupO_mem : ∀ {l : List Out}, ∀ x ∈ l, x ∈ dedupO l
  | [], x, hx => by cases hx
  | y :: l, x, hx => by
    simp only [dedupO]
    rcases List.mem_cons.1 hx with rfl | hx
    · cases hh : l.any (sameOut x) with
      | false => simp
      | true =>
        simp only [cond_true]
        rw [List.any_eq_true] at hh
        obtain ⟨z, hz, hs⟩ := hh
        have := sameOut_eq hs
        subst this
        exact dedupO_mem x hz
    · cases hh : l.any (sameOut y) with
      | false => exact List.mem_cons_of_mem _ (dedupO_mem x hx)
      | true => exact dedupO_mem x hx

theorem toDT_sound {cx cx' : Cx} {S S' : St} {w w' : World} {v v' : AV} {u : Value} (hv : toDT v = some v') (h : ARel cx S w v u) (hd : ∀ x z, DRel w cx.fr x z → DRel w' cx'.fr x z) : ARel cx' S' w' v' u := by
  unfold toDT at hv
  split at hv
  · rename_i vs
    simp only [Option.map_eq_some_iff] at hv
    obtain ⟨xs, hxs, rfl⟩ := hv
    obtain ⟨x1, x2⟩ := toDs_spec hxs
    cases h with
    | tup _ us' hl' hr' =>
      refine .tup _ us' (by simp [hl', x1]) (fun i x z hx hz => ?_)
      simp only [List.getElem?_map, Option.map_eq_some_iff] at hx
      obtain ⟨y, hy, rfl⟩ := hx
      have hlt : i < vs.length := by rw [← x1]; exact (List.getElem?_eq_some_iff.1 hy).1
      have ha := List.getElem?_eq_getElem hlt
      exact .d y z (hd _ _ (toD_sound (x2 i _ y ha hy) (hr' i _ z ha hz)))
  · simp only [Option.map_eq_some_iff] at hv
    obtain ⟨x, hx, rfl⟩ := hv
    exact .d x u (hd _ _ (toD_sound hx h))

theorem gather_sound {R : ObjR} {cx : Cx} {S : St} {w : World} (wf : ∀ id, live S id → id < S.nx) {e : Ending} {w' : World} {rs : List Out} (h : ∃ r ∈ rs, ∃ cx', SRel R cx' r.2.2 w' ∧ Ext cx S w cx' r.2.2 w' ∧ EndOk cx' r.2.2 w' r.1 r.2.1 e) :
    ∃ r ∈ gather S rs, ∃ cx', SRel R cx' r.2.2 w' ∧ Ext cx S w cx' r.2.2 w' ∧ EndOk cx' r.2.2 w' r.1 r.2.1 e := by
  unfold gather
  split
  · exact h
  · obtain ⟨r, hr, cx', h1, h2, h3⟩ := h
    refine ⟨tidyOut S r, dedupO_mem _ (List.mem_map.2 ⟨r, hr, rfl⟩), ?_⟩
    obtain ⟨p, v, S'⟩ := r
    unfold tidyOut
    split
    · rename_i v S' heq
      cases heq
      split
      · rename_i v' hv
        cases hb : belowH S.nx (AL.over S.H S'.H) with
        | false => exact ⟨cx', h1, h2, h3⟩
        | true =>
          obtain ⟨d1, d2⟩ := drop_sound wf h1 h2 hb
          obtain ⟨u, rfl, k3⟩ := h3
          exact ⟨cx', d1, d2, u, rfl, toDT_sound hv k3 (fun _ _ q => q)⟩
      · exact ⟨cx', h1, h2, h3⟩
    · exact ⟨cx', h1, h2, h3⟩

theorem bif_some {α : Type} {b : Bool} {x y : α} (h : (bif b then some x else none) = some y) : b = true ∧ x = y := by
  cases b
  · cases h
  · exact ⟨rfl, Option.some.inj h⟩

theorem det_one {h : HandL} {f : Nat} {args : List AV} {S : St} {r : Out} (hd : det h f args S = some r) : h f args S = some [r] := by
  unfold det at hd
  split at hd
  · rename_i r' hr
    simp only [Option.some.injEq] at hd
    subst hd
    exact hr
  · cases hd

theorem evF_pure {R : ObjR} {C : Cfg} (ok : CfgOk R C) : ∀ n, PureOk (det (evF C n))
  | 0 => fun f args S v S' h => by have := det_one h; simp [evF] at this
  | n + 1 => by
    intro f args S v S' h ha hv S2
    have h := det_one h
    have goal : ∀ {r : Out}, evF C (n + 1) f args S2 = some [r] → det (evF C (n + 1)) f args S2 = some r := fun hq => by unfold det; rw [hq]
    refine goal ?_
    simp only [evF] at h ⊢
    split at h
    · rename_i hp
      rw [if_pos hp]
      simp only [Option.map_eq_some_iff, List.cons.injEq, and_true, Prod.mk.injEq, true_and] at h ⊢
      obtain ⟨⟨v1, S1⟩, h1, rfl, rfl⟩ := h
      exact ⟨(v1, S2), ok.primPure f args S v1 S1 hp h1 ha hv S2, rfl, rfl⟩
    · rename_i hp
      rw [if_neg hp]
      obtain ⟨ds, hds⟩ := Option.isSome_iff_exists.1 ha
      simp only [hds] at h ⊢
      split at h
      · rename_i rs hb
        split at h
        · rename_i os hos
          simp only [Option.some.injEq] at h
          match hdd : dedup os, h with
          | [o], h =>
            simp only [List.map_cons, List.map_nil, List.cons.injEq, and_true, Prod.mk.injEq] at h ⊢
            rw [h.1, h.2.1]
          | [], h => simp at h
          | _ :: _ :: _, h => simp at h
        · exfalso
          split at h
          · rename_i rs2 hb2
            obtain ⟨hall, rfl⟩ := bif_some h
            simp at hall
            rw [hall] at hv; cases hv
          · cases h
      · cases h

theorem evF_sound {R : ObjR} {C : Cfg} (ok : CfgOk R C) : ∀ n, HandOkL R C.P (evF C n)
  | 0 => fun f args S os h => by simp [evF] at h
  | n + 1 => by
    have ih := evF_sound ok n
    intro f args S os h
    simp only [evF] at h
    split at h
    · rename_i hp
      simp only [Option.map_eq_some_iff] at h
      obtain ⟨⟨v1, S1⟩, h1, rfl⟩ := h
      obtain ⟨h2, h3⟩ := ok.prim f args S v1 S1 hp h1
      exact ⟨h2, fun cx w us hS hl hr => (h3 cx w us hS hl hr).mono fun e w' he => ⟨_, List.mem_singleton.2 rfl, he⟩⟩
    · split at h
      · rename_i ds hds
        obtain ⟨d1, d2⟩ := toDs_spec hds
        have hargs : ∀ {cx : Cx} {w : World} {us : List Value}, us.length = args.length → (∀ (i : Nat) (x : AV) (u : Value), args[i]? = some x → us[i]? = some u → ARel cx S w x u) →
            us.length = (ds.map AV.d).length ∧ ∀ (i : Nat) (x : AV) (u : Value), (ds.map AV.d)[i]? = some x → us[i]? = some u → ARel cx pureSt w x u := by
          intro cx w us hl hr
          refine ⟨by simp [hl, d1], fun i x u hx hu => ?_⟩
          simp only [List.getElem?_map, Option.map_eq_some_iff] at hx
          obtain ⟨y, hy, rfl⟩ := hx
          have hlt : i < args.length := by rw [← d1]; exact (List.getElem?_eq_some_iff.1 hy).1
          have ha := List.getElem?_eq_getElem hlt
          exact .d y u (toD_sound (d2 i _ y ha hy) (hr i _ u ha hu))
        split at h
        · rename_i rs hb
          split at h
          · rename_i os' hos
            simp only [Option.some.injEq] at h
            subst h
            obtain ⟨b1, b2⟩ := body_sound ok ih (evF_pure ok n) n hb
            refine ⟨b1, fun cx w us hS hl hr => ?_⟩
            obtain ⟨a1, a2⟩ := hargs hl hr
            refine (b2 cx w us (pure_rel hS) a1 a2).mono (fun e w' he => ?_)
            obtain ⟨⟨p, v1, S1⟩, hr1, cx1, k1, k2, k3⟩ := he
            obtain ⟨m1, m2, m3⟩ := pure_back ok.obj.toObjOk hS k2
            obtain ⟨o, ho, hom⟩ := mapO_mem hos _ hr1
            refine ⟨(o.1, o.2, S), List.mem_map.2 ⟨o, dedup_mem o hom, rfl⟩, cx, m1, m2, ?_⟩
            cases p with
            | none =>
              obtain ⟨u, rfl, k3⟩ := k3
              simp only [plainOut, Option.map_eq_some_iff] at ho
              obtain ⟨v2, hv, rfl⟩ := ho
              refine ⟨u, rfl, ?_⟩
              unfold toDT at hv
              split at hv
              · rename_i vs
                simp only [Option.map_eq_some_iff] at hv
                obtain ⟨xs, hxs, rfl⟩ := hv
                obtain ⟨x1, x2⟩ := toDs_spec hxs
                cases k3 with
                | tup _ us' hl' hr' =>
                  refine .tup _ us' (by simp [hl', x1]) (fun i x z hx hz => ?_)
                  simp only [List.getElem?_map, Option.map_eq_some_iff] at hx
                  obtain ⟨y, hy, rfl⟩ := hx
                  have hlt : i < vs.length := by rw [← x1]; exact (List.getElem?_eq_some_iff.1 hy).1
                  have ha := List.getElem?_eq_getElem hlt
                  exact .d y z (m3 _ _ (toD_sound (x2 i _ y ha hy) (hr' i _ z ha hz)))
              · simp only [Option.map_eq_some_iff] at hv
                obtain ⟨x, hx, rfl⟩ := hv
                exact .d x u (m3 _ _ (toD_sound hx k3))
            | some pv =>
              obtain ⟨u, rfl, k3⟩ := k3
              simp only [plainOut, Option.map_eq_some_iff] at ho
              obtain ⟨x, hx, rfl⟩ := ho
              exact ⟨u, rfl, .d x u (m3 _ _ (toD_sound hx k3))⟩
          · refine body_sound ok ih (evF_pure ok n) n ?_
            split at h
            · rename_i rs2 hb2
              obtain ⟨_, rfl⟩ := bif_some h
              exact hb2
            · cases h
        · cases h
      · simp only [Option.map_eq_some_iff] at h
        obtain ⟨rs, hb, rfl⟩ := h
        obtain ⟨b1, b2⟩ := body_sound ok ih (evF_pure ok n) n hb
        exact ⟨b1, fun cx w us hS hl hr => (b2 cx w us hS hl hr).mono fun e w' he => gather_sound hS.wf he⟩

/-- **A call that the evaluation gives an answer for gives that answer.** -/
theorem calls_of_ev {C : Cfg} {R : ObjR} (ok : CfgOk R C) {n f : Nat} {ds : List D} {x : D} (h : evF C n f (ds.map .d) pureSt = some [(none, .d x, pureSt)]) (w : World) (hG : R.G w (fun _ _ => False)) (us : List Value) (hl : us.length = ds.length)
    (hr : ∀ (i : Nat) (y : D) (u : Value), ds[i]? = some y → us[i]? = some u → DRel w (fun _ _ => False) y u) :
    Calls C.P f us.toArray w (fun e w' => ∃ u, e = .returned u ∧ DRel w' (fun _ _ => False) x u ∧ RowKit.Below w.heap.size w w') := by
  let cx : Cx := { bm := fun _ => 0, fp := fun _ _ => False, tsz := fun _ => 0, tot := fun _ => 0, fr := fun _ _ => False }
  have hS : SRel R cx pureSt w := ⟨fun id hl => absurd rfl hl, fun id b hb => by simp [pureSt, AL.get] at hb, fun id g cs hb => by simp [pureSt, AL.get] at hb, fun id es hb => by simp [pureSt, AL.get] at hb,
    fun id k x hb => by simp [pureSt, AL.get] at hb, fun id en hb => by simp [pureSt, AL.get] at hb, fun id id' b hl => absurd rfl hl, fun b o q => q.elim, hG⟩
  obtain ⟨_, h2⟩ := evF_sound ok n f (ds.map .d) pureSt _ h
  refine (h2 cx w us hS (by simp [hl]) (fun i y u hy hu => ?_)).mono (fun e w' he => ?_)
  · simp only [List.getElem?_map, Option.map_eq_some_iff] at hy
    obtain ⟨z, hz, rfl⟩ := hy
    exact .d z u (hr i z u hz hu)
  · obtain ⟨r, hr, cx', k1, k2, k3⟩ := he
    simp only [List.mem_singleton] at hr
    subst hr
    obtain ⟨u, rfl, k3⟩ := k3
    obtain ⟨m1, m2, m3⟩ := pure_back ok.obj.toObjOk hS k2
    exact ⟨u, rfl, m3 _ _ k3.dd, ⟨m2.os, m2.tape, m2.output, m2.size, fun b hb => (k2.other b hb (fun id hl => absurd rfl hl)).1⟩⟩

end Go.Ev

import Derived.Test.YtbjneeknddapfaaPartB
import Derived.Below
import Derived.Lib.SliceRun
import Derived.Lib.SlTrimSet
import Derived.Lib.Bytealg
import Derived.Lib.Join
namespace Go.Ev
noncomputable section
set_option linter.unusedVariables false
set_option linter.unusedSimpArgs false

theorem enterE_get : ∀ (l : List AV) (k t : Nat), AL.get (enterE k l) t = if k ≤ t then l[t - k]? else none
  | [], k, t => by simp [enterE, AL.get]
  | v :: l, k, t => by
    simp only [enterE]
    rw [AL.get_cons, enterE_get l (k + 1) t]
    by_cases h : k = t
    · subst h; simp
    · by_cases h2 : k ≤ t
      · rw [if_neg h, if_pos (by omega), if_pos h2, show t - k = (t - (k + 1)) + 1 by omega]; simp
      · rw [if_neg h, if_neg (by omega), if_neg h2]

def resSem (tmps : Array Value) : ResultVar → Sem Value
  | .tmp t => pure (tmps.getD t undef)
  | .cell b t => do loadVar t (← asAddr (tmps.getD b undef))

theorem res_sound {R : ObjR} {C : Cfg} {cx : Cx} {S : St} {w : World} (hS : SRel R cx S w) {nt : Nat} {e : Env} {a : Act} (he : ERel cx S w nt e a) {rv : ResultVar} {v : AV} (h : resOf C e S rv = some v) :
    ∃ u, (resSem a.tmps rv).run C.P w = .ok u w ∧ ARel cx S w v u := by
  cases rv with
  | tmp t =>
    simp only [resOf] at h
    obtain ⟨u, h1, h2⟩ := he.rel t v h
    exact ⟨u, by simp [resSem, h1], h2⟩
  | cell b t =>
    simp only [resOf] at h
    split at h
    · rename_i p hp
      obtain ⟨u, h1, h2⟩ := he.rel b p hp
      obtain ⟨z, z1, z2⟩ := load_sound (C := C) hS h h2
      refine ⟨z, ?_, z2⟩
      have hu : a.tmps.getD b undef = u := by simp [h1]
      simp only [resSem, hu]
      unfold opLoad at h
      cases h2 with
      | ptr id g off bb hn hq => simp only [asAddr, Sem.run_bind, Sem.run_pure, Result.andThen_ok]; rw [run_loadAt] at z1; exact z1
      | eptr x off bb o vs hc hm => simp only [asAddr, Sem.run_bind, Sem.run_pure, Result.andThen_ok]; rw [run_loadAt] at z1; exact z1
      | _ => simp at h
    · cases h

theorem results_sound {R : ObjR} {C : Cfg} {cx : Cx} {S : St} {w : World} (hS : SRel R cx S w) {nt : Nat} {e : Env} {a : Act} (he : ERel cx S w nt e a) {fn : Func} {v : AV} (h : resultsE C fn e S = some v) :
    ∃ u, (results fn a.tmps).run C.P w = .ok u w ∧ ARel cx S w v u := by
  unfold resultsE at h
  have key : ∀ {l : List ResultVar} {vs : List AV}, mapO (resOf C e S) l = some vs → ∃ us : List Value, us.length = vs.length ∧ (l.mapM (resSem a.tmps)).run C.P w = .ok us w ∧ ∀ (i : Nat) (x : AV) (u : Value), vs[i]? = some x → us[i]? = some u → ARel cx S w x u := by
    intro l
    induction l with
    | nil => intro vs h; simp [mapO] at h; subst h; exact ⟨[], rfl, by simp, by simp⟩
    | cons rv l ih =>
      intro vs h
      simp only [mapO] at h
      split at h
      · rename_i y hy
        simp only [Option.map_eq_some_iff] at h
        obtain ⟨ys, hys, rfl⟩ := h
        obtain ⟨us, u1, u2, u3⟩ := ih hys
        obtain ⟨u, r1, r2⟩ := res_sound hS he hy
        refine ⟨u :: us, by simp [u1], ?_, fun i x z hx hz => ?_⟩
        · rw [List.mapM_cons]
          simp only [Sem.run_bind]
          rw [r1]
          simp only [Result.andThen_ok]
          rw [u2]
          rfl
        · cases i with
          | zero => simp at hx hz; subst hx; subst hz; exact r2
          | succ i => exact u3 i x z (by simpa using hx) (by simpa using hz)
      · cases h
  have run : ∀ {us : List Value}, (fn.results.toList.mapM (resSem a.tmps)).run C.P w = .ok us w → (results fn a.tmps).run C.P w = .ok (if h : us.toArray.size = 1 then us.toArray[0] else .tuple us.toArray) w := by
    intro us hu
    have hres : results fn a.tmps = (do let vs ← fn.results.mapM (resSem a.tmps); pure (if h : vs.size = 1 then vs[0] else .tuple vs)) := rfl
    rw [hres, Array.mapM_eq_mapM_toList]
    simp only [Sem.run_bind, Sem.run_map, hu, Result.andThen_ok]
    rfl
  split at h
  · rename_i x hx
    simp only [Option.some.injEq] at h; subst h
    obtain ⟨us, u1, u2, u3⟩ := key hx
    match us, u1 with
    | [u], _ => exact ⟨u, by rw [run u2]; rfl, u3 0 x u rfl rfl⟩
  · rename_i vs hne hx
    simp only [Option.some.injEq] at h; subst h
    obtain ⟨us, u1, u2, u3⟩ := key hx
    refine ⟨.tuple us.toArray, ?_, .tup vs us u1 u3⟩
    rw [run u2, dif_neg]
    intro q
    simp at q
    rw [u1] at q
    match vs, q with
    | [x], _ => exact hne x rfl
  · cases h

structure CfgOk (R : ObjR) (C : Cfg) : Prop where
  obj : ObjOkC R C
  mixed : C.P.follows .mixedOrders = true
  code : ∀ f fn c, C.good f = true → C.P.funcs[f]? = some fn → fn.body = some c → codeOk c = true ∧ fn.name ≠ "runtime.NumGoroutine"
  primPure : ∀ f args S v S', C.hasPrim f = true → C.prim f args S = some (v, S') → (toDs args).isSome = true → (toDT v).isSome = true → ∀ S2, C.prim f args S2 = some (v, S2)
  prim : ∀ f args S v S', C.hasPrim f = true → C.prim f args S = some (v, S') → (∃ fn, C.P.funcs[f]? = some fn ∧ fn.body.isSome = true ∧ fn.name ≠ "runtime.NumGoroutine") ∧
    ∀ cx w (us : List Value), SRel R cx S w → us.length = args.length → (∀ (i : Nat) (x : AV) (u : Value), args[i]? = some x → us[i]? = some u → ARel cx S w x u) →
    Calls C.P f us.toArray w (fun e w' => ∃ cx', SRel R cx' S' w' ∧ Ext cx S w cx' S' w' ∧ ∃ u, e = .returned u ∧ ARel cx' S' w' v u)

theorem body_sound {R : ObjR} {C : Cfg} (ok : CfgOk R C) {h : HandL} (hh : HandOkL R C.P h) (hpu : PureOk (det h)) (n : Nat) {f : Nat} {args : List AV} {S : St} {os : List Out} (hb : bodyE C h n f args S = some os) :
    (∃ fn, C.P.funcs[f]? = some fn ∧ fn.body.isSome = true ∧ fn.name ≠ "runtime.NumGoroutine") ∧
    ∀ cx w (us : List Value), SRel R cx S w → us.length = args.length → (∀ (i : Nat) (x : AV) (u : Value), args[i]? = some x → us[i]? = some u → ARel cx S w x u) →
    Calls C.P f us.toArray w (fun e w' => ∃ r ∈ os, ∃ cx', SRel R cx' r.2.2 w' ∧ Ext cx S w cx' r.2.2 w' ∧
      EndOk cx' r.2.2 w' r.1 r.2.1 e) := by
  unfold bodyE at hb
  split at hb
  · rename_i fn hf
    split at hb
    · rename_i c hc
      cases hg : (C.good f && Nat.ble args.length fn.ntmps) with
      | false => rw [hg] at hb; cases hb
      | true =>
        rw [hg] at hb
        simp only [cond_true] at hb
        simp only [Bool.and_eq_true] at hg
        obtain ⟨hg, hle⟩ := hg
        have hle := Nat.le_of_ble_eq_true hle
        obtain ⟨hcode, hname⟩ := ok.code f fn c hg hf hc
        refine ⟨⟨fn, hf, by simp [hc], hname⟩, fun cx w us hS hl hr => ?_⟩
        refine calls_of_wp hf hc ?_
        have he : ERel cx S w fn.ntmps (enterE 0 args) { tmps := us.toArray ++ Array.replicate (fn.ntmps - us.toArray.size) undef, defers := [] } := by
          refine ⟨by simp; omega, fun t x hx => ?_⟩
          rw [enterE_get] at hx
          simp only [Nat.zero_le, if_true, Nat.sub_zero] at hx
          have hlt : t < us.length := by rw [hl]; exact (List.getElem?_eq_some_iff.1 hx).1
          have hu := List.getElem?_eq_getElem hlt
          exact ⟨us[t], by rw [Array.getElem?_append_left (by simpa using hlt)]; simp, hr t x _ hx hu⟩
        split at hb
        · rename_i rs hev
          refine evC_sound ok.obj ok.mixed hh hpu c hcode cx S w _ _ rs _ hev hS he (fun r hr => ?_)
          obtain ⟨out, ho, hm⟩ := mapO_mem hb r hr
          obtain ⟨x, e, S1⟩ := r
          cases x with
          | normal =>
            simp only [outOf, Option.map_eq_some_iff] at ho
            obtain ⟨rv, hrv, rfl⟩ := ho
            intro cx' a' w' q1 q2 q3 q4
            obtain ⟨u, r1, r2⟩ := results_sound q1 q3 hrv
            exact ⟨q4, u, r1, _, hm, cx', q1, q2, u, rfl, r2⟩
          | ret =>
            simp only [outOf, Option.map_eq_some_iff] at ho
            obtain ⟨rv, hrv, rfl⟩ := ho
            intro cx' a' w' q1 q2 q3 q4
            obtain ⟨u, r1, r2⟩ := results_sound q1 q3 hrv
            exact ⟨q4, u, r1, _, hm, cx', q1, q2, u, rfl, r2⟩
          | panic pv =>
            simp only [outOf, Option.some.injEq] at ho
            subst ho
            intro cx' a' w' u q1 q2 q3 q4
            exact ⟨q4, _, hm, cx', q1, q2, u, rfl, q3⟩
          | exit id => simp [outOf] at ho
        · cases hb
    · cases hb
  · cases hb

theorem optSame_eq {x y : Option AV} (h : optSame x y = true) : x = y := by
  unfold optSame at h
  split at h
  · rfl
  · rw [AV.same_eq _ _ h]
  · cases h

theorem dedup_mem : ∀ {l : List (Option AV × AV)}, ∀ x ∈ l, x ∈ dedup l
  | [], x, hx => by cases hx
  | y :: l, x, hx => by
    simp only [dedup]
    rcases List.mem_cons.1 hx with rfl | hx
    · cases hh : hasOut l x with
      | false => simp
      | true =>
        simp only [cond_true]
        unfold hasOut at hh
        rw [List.any_eq_true] at hh
        obtain ⟨z, hz, hs⟩ := hh
        simp only [Bool.and_eq_true] at hs
        have : x = z := Prod.ext (optSame_eq hs.1) (AV.same_eq _ _ hs.2)
        subst this
        exact dedup_mem x hz
    · cases hh : hasOut l y with
      | false => exact List.mem_cons_of_mem _ (dedup_mem x hx)
      | true => exact dedup_mem x hx

theorem pure_rel {R : ObjR} {cx : Cx} {S : St} {w : World} (h : SRel R cx S w) : SRel R cx pureSt w where
  wf := fun id hl => absurd rfl hl
  dis := fun id b hb => by simp [pureSt, AL.get] at hb
  cells := fun id g cs hb => by simp [pureSt, AL.get] at hb
  maps := fun id es hb => by simp [pureSt, AL.get] at hb
  objs := fun id k x hb => by simp [pureSt, AL.get] at hb
  toks := fun id en hb => by simp [pureSt, AL.get] at hb
  sep := fun id id' b hl => absurd rfl hl
  stat := h.stat
  lt := h.lt

theorem pure_back {R : ObjR} (hR : ObjOk R) {cx cx1 : Cx} {S S1 : St} {w w1 : World} (h : SRel R cx S w) (e : Ext cx pureSt w cx1 S1 w1) :
    SRel R cx S w1 ∧ Ext cx S w cx S w1 ∧ ∀ x v, DRel w1 cx1.fr x v → DRel w1 cx.fr x v := by
  have hb : ∀ b, b < w.heap.size → w1.heap[b]? = w.heap[b]? ∧ ∀ o, (cx1.fr b o ↔ cx.fr b o) := fun b hb => e.other b hb (fun id hl => absurd rfl hl)
  have ex : Ext cx S w cx S w1 := Ext.old h e.size (fun b q => (hb b q).1) e.os e.tape e.output
  refine ⟨SRel.old hR h e.size (fun b q => (hb b q).1) ex, ex, fun x v hd => hd.mono (fun b o v hf hc => ⟨hc, fun q => ?_⟩)⟩
  have hlt := h.lt b o q
  exact hf (((hb b hlt).2 o).2 q)

theorem sameOut_eq {x y : Out} (h : sameOut x y = true) : x = y := by
  obtain ⟨p, v, S⟩ := x
  obtain ⟨p', v', S'⟩ := y
  simp only [sameOut, Bool.and_eq_true] at h
  rw [optSame_eq h.1.1, AV.same_eq _ _ h.1.2, sameS_eq h.2]
theorem dedupO_mem : ∀ {l : List Out}, ∀ x ∈ l, x ∈ dedupO l
  | [], x, hx => by cases hx
  | y :: l, x, hx => by
    simp only [dedupO]
    rcases List.mem_cons.1 hx with rfl | hx
    · cases hh : l.any (sameOut x) with
      | false => simp
      | true =>
        simp only [cond_true]
        rw [List.any_eq_true] at hh
        obtain ⟨z, hz, hs⟩ := hh
        have := sameOut_eq hs
        subst this
        exact dedupO_mem x hz
    · cases hh : l.any (sameOut y) with
      | false => exact List.mem_cons_of_mem _ (dedupO_mem x hx)
      | true => exact dedupO_mem x hx

theorem toDT_sound {cx cx' : Cx} {S S' : St} {w w' : World} {v v' : AV} {u : Value} (hv : toDT v = some v') (h : ARel cx S w v u) (hd : ∀ x z, DRel w cx.fr x z → DRel w' cx'.fr x z) : ARel cx' S' w' v' u := by
  unfold toDT at hv
  split at hv
  · rename_i vs
    simp only [Option.map_eq_some_iff] at hv
    obtain ⟨xs, hxs, rfl⟩ := hv
    obtain ⟨x1, x2⟩ := toDs_spec hxs
    cases h with
    | tup _ us' hl' hr' =>
      refine .tup _ us' (by simp [hl', x1]) (fun i x z hx hz => ?_)
      simp only [List.getElem?_map, Option.map_eq_some_iff] at hx
      obtain ⟨y, hy, rfl⟩ := hx
      have hlt : i < vs.length := by rw [← x1]; exact (List.getElem?_eq_some_iff.1 hy).1
      have ha := List.getElem?_eq_getElem hlt
      exact .d y z (hd _ _ (toD_sound (x2 i _ y ha hy) (hr' i _ z ha hz)))
  · simp only [Option.map_eq_some_iff] at hv
    obtain ⟨x, hx, rfl⟩ := hv
    exact .d x u (hd _ _ (toD_sound hx h))

theorem gather_sound {R : ObjR} {cx : Cx} {S : St} {w : World} (wf : ∀ id, live S id → id < S.nx) {e : Ending} {w' : World} {rs : List Out} (h : ∃ r ∈ rs, ∃ cx', SRel R cx' r.2.2 w' ∧ Ext cx S w cx' r.2.2 w' ∧ EndOk cx' r.2.2 w' r.1 r.2.1 e) :
    ∃ r ∈ gather S rs, ∃ cx', SRel R cx' r.2.2 w' ∧ Ext cx S w cx' r.2.2 w' ∧ EndOk cx' r.2.2 w' r.1 r.2.1 e := by
  unfold gather
  split
  · exact h
  · obtain ⟨r, hr, cx', h1, h2, h3⟩ := h
    refine ⟨tidyOut S r, dedupO_mem _ (List.mem_map.2 ⟨r, hr, rfl⟩), ?_⟩
    obtain ⟨p, v, S'⟩ := r
    unfold tidyOut
    split
    · rename_i v S' heq
      cases heq
      split
      · rename_i v' hv
        cases hb : belowH S.nx (AL.over S.H S'.H) with
        | false => exact ⟨cx', h1, h2, h3⟩
        | true =>
          obtain ⟨d1, d2⟩ := drop_sound wf h1 h2 hb
          obtain ⟨u, rfl, k3⟩ := h3
          exact ⟨cx', d1, d2, u, rfl, toDT_sound hv k3 (fun _ _ q => q)⟩
      · exact ⟨cx', h1, h2, h3⟩
    · exact ⟨cx', h1, h2, h3⟩

theorem bif_some {α : Type} {b : Bool} {x y : α} (h : (bif b then some x else none) = some y) : b = true ∧ x = y := by
  cases b
  · cases h
  · exact ⟨rfl, Option.some.inj h⟩

theorem det_one {h : HandL} {f : Nat} {args : List AV} {S : St} {r : Out} (hd : det h f args S = some r) : h f args S = some [r] := by
  unfold det at hd
  split at hd
  · rename_i r' hr
    simp only [Option.some.injEq] at hd
    subst hd
    exact hr
  · cases hd

theorem evF_pure {R : ObjR} {C : Cfg} (ok : CfgOk R C) : ∀ n, PureOk (det (evF C n))
  | 0 => fun f args S v S' h => by have := det_one h; simp [evF] at this
  | n + 1 => by
    intro f args S v S' h ha hv S2
    have h := det_one h
    have goal : ∀ {r : Out}, evF C (n + 1) f args S2 = some [r] → det (evF C (n + 1)) f args S2 = some r := fun hq => by unfold det; rw [hq]
    refine goal ?_
    simp only [evF] at h ⊢
    split at h
    · rename_i hp
      rw [if_pos hp]
      simp only [Option.map_eq_some_iff, List.cons.injEq, and_true, Prod.mk.injEq, true_and] at h ⊢
      obtain ⟨⟨v1, S1⟩, h1, rfl, rfl⟩ := h
      exact ⟨(v1, S2), ok.primPure f args S v1 S1 hp h1 ha hv S2, rfl, rfl⟩
    · rename_i hp
      rw [if_neg hp]
      obtain ⟨ds, hds⟩ := Option.isSome_iff_exists.1 ha
      simp only [hds] at h ⊢
      split at h
      · rename_i rs hb
        split at h
        · rename_i os hos
          simp only [Option.some.injEq] at h
          match hdd : dedup os, h with
          | [o], h =>
            simp only [List.map_cons, List.map_nil, List.cons.injEq, and_true, Prod.mk.injEq] at h ⊢
            rw [h.1, h.2.1]
          | [], h => simp at h
          | _ :: _ :: _, h => simp at h
        · exfalso
          split at h
          · rename_i rs2 hb2
            obtain ⟨hall, rfl⟩ := bif_some h
            simp at hall
            rw [hall] at hv; cases hv
          · cases h
      · cases h

theorem evF_sound {R : ObjR} {C : Cfg} (ok : CfgOk R C) : ∀ n, HandOkL R C.P (evF C n)
  | 0 => fun f args S os h => by simp [evF] at h
  | n + 1 => by
    have ih := evF_sound ok n
    intro f args S os h
    simp only [evF] at h
    split at h
    · rename_i hp
      simp only [Option.map_eq_some_iff] at h
      obtain ⟨⟨v1, S1⟩, h1, rfl⟩ := h
      obtain ⟨h2, h3⟩ := ok.prim f args S v1 S1 hp h1
      exact ⟨h2, fun cx w us hS hl hr => (h3 cx w us hS hl hr).mono fun e w' he => ⟨_, List.mem_singleton.2 rfl, he⟩⟩
    · split at h
      · rename_i ds hds
        obtain ⟨d1, d2⟩ := toDs_spec hds
        have hargs : ∀ {cx : Cx} {w : World} {us : List Value}, us.length = args.length → (∀ (i : Nat) (x : AV) (u : Value), args[i]? = some x → us[i]? = some u → ARel cx S w x u) →
            us.length = (ds.map AV.d).length ∧ ∀ (i : Nat) (x : AV) (u : Value), (ds.map AV.d)[i]? = some x → us[i]? = some u → ARel cx pureSt w x u := by
          intro cx w us hl hr
          refine ⟨by simp [hl, d1], fun i x u hx hu => ?_⟩
          simp only [List.getElem?_map, Option.map_eq_some_iff] at hx
          obtain ⟨y, hy, rfl⟩ := hx
          have hlt : i < args.length := by rw [← d1]; exact (List.getElem?_eq_some_iff.1 hy).1
          have ha := List.getElem?_eq_getElem hlt
          exact .d y u (toD_sound (d2 i _ y ha hy) (hr i _ u ha hu))
        split at h
        · rename_i rs hb
          split at h
          · rename_i os' hos
            simp only [Option.some.injEq] at h
            subst h
            obtain ⟨b1, b2⟩ := body_sound ok ih (evF_pure ok n) n hb
            refine ⟨b1, fun cx w us hS hl hr => ?_⟩
            obtain ⟨a1, a2⟩ := hargs hl hr
            refine (b2 cx w us (pure_rel hS) a1 a2).mono (fun e w' he => ?_)
            obtain ⟨⟨p, v1, S1⟩, hr1, cx1, k1, k2, k3⟩ := he
            obtain ⟨m1, m2, m3⟩ := pure_back ok.obj.toObjOk hS k2
            obtain ⟨o, ho, hom⟩ := mapO_mem hos _ hr1
            refine ⟨(o.1, o.2, S), List.mem_map.2 ⟨o, dedup_mem o hom, rfl⟩, cx, m1, m2, ?_⟩
            cases p with
            | none =>
              obtain ⟨u, rfl, k3⟩ := k3
              simp only [plainOut, Option.map_eq_some_iff] at ho
              obtain ⟨v2, hv, rfl⟩ := ho
              refine ⟨u, rfl, ?_⟩
              unfold toDT at hv
              split at hv
              · rename_i vs
                simp only [Option.map_eq_some_iff] at hv
                obtain ⟨xs, hxs, rfl⟩ := hv
                obtain ⟨x1, x2⟩ := toDs_spec hxs
                cases k3 with
                | tup _ us' hl' hr' =>
                  refine .tup _ us' (by simp [hl', x1]) (fun i x z hx hz => ?_)
                  simp only [List.getElem?_map, Option.map_eq_some_iff] at hx
                  obtain ⟨y, hy, rfl⟩ := hx
                  have hlt : i < vs.length := by rw [← x1]; exact (List.getElem?_eq_some_iff.1 hy).1
                  have ha := List.getElem?_eq_getElem hlt
                  exact .d y z (m3 _ _ (toD_sound (x2 i _ y ha hy) (hr' i _ z ha hz)))
              · simp only [Option.map_eq_some_iff] at hv
                obtain ⟨x, hx, rfl⟩ := hv
                exact .d x u (m3 _ _ (toD_sound hx k3))
            | some pv =>
              obtain ⟨u, rfl, k3⟩ := k3
              simp only [plainOut, Option.map_eq_some_iff] at ho
              obtain ⟨x, hx, rfl⟩ := ho
              exact ⟨u, rfl, .d x u (m3 _ _ (toD_sound hx k3))⟩
          · refine body_sound ok ih (evF_pure ok n) n ?_
            split at h
            · rename_i rs2 hb2
              obtain ⟨_, rfl⟩ := bif_some h
              exact hb2
            · cases h
        · cases h
      · simp only [Option.map_eq_some_iff] at h
        obtain ⟨rs, hb, rfl⟩ := h
        obtain ⟨b1, b2⟩ := body_sound ok ih (evF_pure ok n) n hb
        exact ⟨b1, fun cx w us hS hl hr => (b2 cx w us hS hl hr).mono fun e w' he => gather_sound hS.wf he⟩

end
end Go.Ev


namespace Go.Ev
noncomputable section
set_option linter.unusedVariables false
set_option linter.unusedSimpArgs false

/-! ### A logic over the abstract memory: what a call comes to, what a piece of code comes to -/

variable {R : ObjR} {C : Cfg}

/-- A call from a state, with what is handed in, comes to one of these. -/
def SpecF (R : ObjR) (P : Program) (f : Nat) (args : List AV) (S : St) (Q : Out → Prop) : Prop :=
  (∃ fn, P.funcs[f]? = some fn ∧ fn.body.isSome = true ∧ fn.name ≠ "runtime.NumGoroutine") ∧
  ∀ cx w (us : List Value), SRel R cx S w → us.length = args.length → (∀ (i : Nat) (x : AV) (u : Value), args[i]? = some x → us[i]? = some u → ARel cx S w x u) →
    Calls P f us.toArray w (fun e w' => ∃ r, Q r ∧ ∃ cx', SRel R cx' r.2.2 w' ∧ Ext cx S w cx' r.2.2 w' ∧ EndOk cx' r.2.2 w' r.1 r.2.1 e)

theorem SpecF.mono {P : Program} {f : Nat} {args : List AV} {S : St} {Q Q' : Out → Prop} (h : SpecF R P f args S Q) (hq : ∀ r, Q r → Q' r) : SpecF R P f args S Q' :=
  ⟨h.1, fun cx w us h1 h2 h3 => (h.2 cx w us h1 h2 h3).mono fun e w' ⟨r, q, k⟩ => ⟨r, hq r q, k⟩⟩

theorem SpecF.of_hand {P : Program} {h : HandL} (hh : HandOkL R P h) {f : Nat} {args : List AV} {S : St} {rs : List Out} (he : h f args S = some rs) : SpecF R P f args S (· ∈ rs) :=
  ⟨(hh f args S rs he).1, fun cx w us h1 h2 h3 => ((hh f args S rs he).2 cx w us h1 h2 h3).mono fun e w' ⟨r, q, k⟩ => ⟨r, q, k⟩⟩

/-- What an evaluation answers is what the call comes to. -/
theorem SpecF.of_ev (ok : CfgOk R C) {n f : Nat} {args : List AV} {S : St} {rs : List Out} (he : evF C n f args S = some rs) : SpecF R C.P f args S (· ∈ rs) :=
  .of_hand (evF_sound ok n) he

/-- A piece of code, from these slots and this state, ends in one of these ways. -/
def WpC (R : ObjR) (P : Program) (nt : Nat) (c : Code) (e : Env) (S : St) (Q : Res → Prop) : Prop :=
  ∀ (cx : Cx) (w : World) (a : Act) (K : Exit → Act → World → Prop), SRel R cx S w → ERel cx S w nt e a → (∀ r, Q r → Fin R cx S w nt a K r) → c.wp P K a w

/-- The rounds of a loop. -/
def WpL (R : ObjR) (P : Program) (nt : Nat) (c : Code) (e : Env) (S : St) (Q : Res → Prop) : Prop :=
  ∀ (cx : Cx) (w : World) (a : Act) (K : Exit → Act → World → Prop), SRel R cx S w → ERel cx S w nt e a → (∀ r, Q r → Fin R cx S w nt a K r) →
    ∀ (b : Frame) (k : List Go.Item) (cs : List Frame), ∃ x a' w', K x a' w' ∧ Arrives P (lone (b.at a (.code c :: .inLoop c :: k)) cs w) b k cs x a' w'

variable {P : Program} {nt : Nat}

theorem WpC.mono {c : Code} {e : Env} {S : St} {Q Q' : Res → Prop} (h : WpC R P nt c e S Q) (hq : ∀ r, Q r → Q' r) : WpC R P nt c e S Q' :=
  fun cx w a K h1 h2 h3 => h cx w a K h1 h2 (fun r q => h3 r (hq r q))
theorem WpL.mono {c : Code} {e : Env} {S : St} {Q Q' : Res → Prop} (h : WpL R P nt c e S Q) (hq : ∀ r, Q r → Q' r) : WpL R P nt c e S Q' :=
  fun cx w a K h1 h2 h3 => h cx w a K h1 h2 (fun r q => h3 r (hq r q))

/-- Fewer slots. -/
def Sub (e2 e : Env) : Prop := ∀ t x, AL.get e2 t = some x → AL.get e t = some x
theorem Sub.refl (e : Env) : Sub e e := fun _ _ h => h
theorem Sub.nil {e : Env} : Sub [] e := fun _ _ h => by simp [AL.get] at h
theorem Sub.cons {t : Nat} {x : AV} {e2 e : Env} (h : AL.get e t = some x) (k : Sub e2 e) : Sub ((t, x) :: e2) e := by
  intro u y hy
  rw [AL.get_cons] at hy
  by_cases hu : t = u
  · subst hu; rw [if_pos rfl] at hy; cases hy; exact h
  · rw [if_neg hu] at hy; exact k u y hy

theorem ERel.sub {cx : Cx} {S : St} {w : World} {e2 e : Env} {a : Act} (h : ERel cx S w nt e a) (s : Sub e2 e) : ERel cx S w nt e2 a :=
  ⟨h.size, fun t x hx => h.rel t x (s t x hx)⟩

theorem WpC.sub {c : Code} {e2 e : Env} {S : St} {Q : Res → Prop} (s : Sub e2 e) (h : WpC R P nt c e2 S Q) : WpC R P nt c e S Q :=
  fun cx w a K h1 h2 h3 => h cx w a K h1 (h2.sub s) h3
theorem WpL.sub {c : Code} {e2 e : Env} {S : St} {Q : Res → Prop} (s : Sub e2 e) (h : WpL R P nt c e2 S Q) : WpL R P nt c e S Q :=
  fun cx w a K h1 h2 h3 => h cx w a K h1 (h2.sub s) h3

theorem WpC.skip {e : Env} {S : St} {Q : Res → Prop} (h : Q (.normal, e, S)) : WpC R P nt .skip e S Q :=
  fun cx w a K h1 h2 h3 => wp_skip (h3 _ h cx a w h1 (Ext.refl w h1.wf) h2 rfl)
theorem WpC.exit {id : Nat} {e : Env} {S : St} {Q : Res → Prop} (h : Q (.exit id, e, S)) : WpC R P nt (.exit id) e S Q :=
  fun cx w a K h1 h2 h3 => wp_exit (h3 _ h cx a w h1 (Ext.refl w h1.wf) h2 rfl)
theorem WpC.ret {e : Env} {S : St} {Q : Res → Prop} (h : Q (.ret, e, S)) : WpC R P nt .ret e S Q :=
  fun cx w a K h1 h2 h3 => wp_ret (h3 _ h cx a w h1 (Ext.refl w h1.wf) h2 rfl)

/-- What comes behind, if one gets there. -/
def thenQ (k : Env → St → Prop) (Q : Res → Prop) : Res → Prop
  | (.normal, e, S) => k e S
  | r => Q r

theorem WpC.seq {x y : Code} {e : Env} {S : St} {Q : Res → Prop} (h : WpC R P nt x e S (thenQ (fun e' S' => WpC R P nt y e' S' Q) Q)) : WpC R P nt (.seq x y) e S Q := by
  intro cx w a K h1 h2 h3
  refine wp_seq (h cx w a _ h1 h2 (fun r hr => ?_))
  obtain ⟨x1, e', S'⟩ := r
  cases x1 with
  | normal =>
    intro cx' a' w' q1 q2 q3 q4
    exact hr cx' w' a' K q1 q3 (fun r q => (h3 r q).trans q2 q4)
  | exit id => exact h3 _ hr
  | ret => exact h3 _ hr
  | panic v => exact h3 _ hr

theorem WpC.cond {c : Operand} {x y : Code} {e : Env} {S : St} {Q : Res → Prop} {b : Bool} (hc : evalO e c = some (.d (.bool b))) (h1 : b = true → WpC R P nt x e S Q) (h2 : b = false → WpC R P nt y e S Q) : WpC R P nt (.cond c x y) e S Q := by
  intro cx w a K hS he hk
  cases b with
  | true => exact wp_cond_true ((he.eval c _ hc).bool) (h1 rfl cx w a K hS he hk)
  | false => exact wp_cond_false ((he.eval c _ hc).bool) (h2 rfl cx w a K hS he hk)

/-- What leaves a block. -/
def blockQ (id : Nat) (Q : Res → Prop) : Res → Prop
  | (.exit j, e, S) => bif Nat.beq j id then Q (.normal, e, S) else Q (.exit j, e, S)
  | r => Q r

theorem WpC.block {id : Nat} {c : Code} {e : Env} {S : St} {Q : Res → Prop} (h : WpC R P nt c e S (blockQ id Q)) : WpC R P nt (.block id c) e S Q := by
  intro cx w a K h1 h2 h3
  refine wp_block (h cx w a _ h1 h2 (fun r hr => ?_))
  obtain ⟨x1, e', S'⟩ := r
  cases x1 with
  | normal => exact h3 _ hr
  | exit j =>
    simp only [blockQ] at hr
    by_cases hj : j = id
    · have hb : Nat.beq j id = true := by rw [hj]; exact Nat.beq_refl id
      rw [hb] at hr
      intro cx' a' w' q1 q2 q3 q4
      simp only [Exit.inBlock, if_pos hj]
      exact h3 _ hr cx' a' w' q1 q2 q3 q4
    · have hb : Nat.beq j id = false := by
        cases hb : Nat.beq j id
        · rfl
        · exact absurd (Nat.eq_of_beq_eq_true hb) hj
      rw [hb] at hr
      intro cx' a' w' q1 q2 q3 q4
      simp only [Exit.inBlock, if_neg hj]
      exact h3 _ hr cx' a' w' q1 q2 q3 q4
  | ret => exact h3 _ hr
  | panic v => exact h3 _ hr

theorem WpC.loop {c : Code} {e : Env} {S : St} {Q : Res → Prop} (h : WpL R P nt c e S Q) : WpC R P nt (.loop c) e S Q := by
  intro cx w a K h1 h2 h3 b k cs
  obtain ⟨x, a', w', q, harr⟩ := h cx w a K h1 h2 h3 b k cs
  exact ⟨x, a', w', q, .of_steps (.one step_loop) harr⟩

theorem WpL.round {c : Code} {e : Env} {S : St} {Q : Res → Prop} (h : WpC R P nt c e S (thenQ (fun e' S' => WpL R P nt c e' S' Q) Q)) : WpL R P nt c e S Q := by
  intro cx w a K hS he hk b k cs
  let K' : Exit → Act → World → Prop := fun x a' w' => match x with
    | .normal => ∃ cx1 e1 S1, SRel R cx1 S1 w' ∧ ERel cx1 S1 w' nt e1 a' ∧ Ext cx S w cx1 S1 w' ∧ a'.defers = a.defers ∧ WpL R P nt c e1 S1 Q
    | x => K x a' w'
  have hround : c.wp P K' a w := by
    refine h cx w a K' hS he (fun r hr => ?_)
    obtain ⟨x, e', S'⟩ := r
    cases x with
    | normal => exact fun cx' a' w' q1 q2 q3 q4 => ⟨cx', e', S', q1, q3, q2, q4, hr⟩
    | exit id => exact hk _ hr
    | ret => exact hk _ hr
    | panic v => exact hk _ hr
  obtain ⟨x, a₁, w₁, hq, harr⟩ := hround b (.inLoop c :: k) cs
  cases x with
  | normal =>
    obtain ⟨cx1, e1, S1, s1, er1, x1, d1, hl⟩ := hq
    obtain ⟨x2, a₂, w₂, hq₂, harr₂⟩ := hl cx1 w₁ a₁ K s1 er1 (fun r hr => (hk r hr).trans x1 d1) b k cs
    exact ⟨x2, a₂, w₂, hq₂, .of_steps (Steps.trans harr (.one step_inLoop)) harr₂⟩
  | exit id => exact ⟨_, a₁, w₁, hq, .pass (x := .inLoop c) rfl (fun _ _ => .inl (by simp)) harr⟩
  | goto l => exact ⟨_, a₁, w₁, hq, .pass (x := .inLoop c) rfl (fun _ _ => .inl (by simp)) harr⟩
  | ret => exact ⟨_, a₁, w₁, hq, .pass (x := .inLoop c) rfl (fun _ _ => .inl (by simp)) harr⟩
  | panic ch => exact ⟨_, a₁, w₁, hq, .pass (x := .inLoop c) rfl (fun _ _ => .inl (by simp)) harr⟩
  | outgrown => exact ⟨_, a₁, w₁, hq, .pass (x := .inLoop c) rfl (fun _ _ => .inl (by simp)) harr⟩

/-- A word in place of another one: whatever the other one fits it fits, too. -/
def Less (y x : AV) : Prop := ∀ (cx : Cx) (S : St) (w : World) (v : Value), ARel cx S w x v → ARel cx S w y v
theorem Less.refl (x : AV) : Less x x := fun _ _ _ _ h => h
theorem Less.trans {x y z : AV} (a : Less z y) (b : Less y x) : Less z x := fun cx S w v h => a cx S w v (b cx S w v h)

/-- Fewer slots, with words that say less. -/
def WeakE (e2 e : Env) : Prop := ∀ t x, AL.get e2 t = some x → ∃ y, AL.get e t = some y ∧ Less x y
theorem WeakE.refl (e : Env) : WeakE e e := fun _ x h => ⟨x, h, .refl x⟩
theorem WeakE.trans {e1 e2 e3 : Env} (a : WeakE e1 e2) (b : WeakE e2 e3) : WeakE e1 e3 := fun t x h => by
  obtain ⟨y, h1, h2⟩ := a t x h
  obtain ⟨z, h3, h4⟩ := b t y h1
  exact ⟨z, h3, h2.trans h4⟩
theorem WeakE.top {e : Env} {t : Nat} {x y : AV} (h : Less y x) : WeakE ((t, y) :: e) ((t, x) :: e) := fun u z hz => by
  rw [AL.get_cons] at hz ⊢
  by_cases hu : t = u
  · rw [if_pos hu] at hz ⊢; cases hz; exact ⟨x, rfl, h⟩
  · rw [if_neg hu] at hz ⊢; exact ⟨z, hz, .refl z⟩
theorem WeakE.nil {e : Env} : WeakE [] e := fun _ _ h => by simp [AL.get] at h
theorem WeakE.cons {t : Nat} {x y : AV} {e2 e : Env} (h : AL.get e t = some y) (hl : Less x y) (k : WeakE e2 e) : WeakE ((t, x) :: e2) e := fun u z hz => by
  rw [AL.get_cons] at hz
  by_cases hu : t = u
  · subst hu; rw [if_pos rfl] at hz; cases hz; exact ⟨y, h, hl⟩
  · rw [if_neg hu] at hz; exact k u z hz
theorem ERel.weak {cx : Cx} {S : St} {w : World} {e2 e : Env} {a : Act} (h : ERel cx S w nt e a) (s : WeakE e2 e) : ERel cx S w nt e2 a :=
  ⟨h.size, fun t x hx => by
    obtain ⟨y, h1, h2⟩ := s t x hx
    obtain ⟨v, v1, v2⟩ := h.rel t y h1
    exact ⟨v, v1, h2 _ _ _ _ v2⟩⟩
theorem WpC.weak {c : Code} {e2 e : Env} {S : St} {Q : Res → Prop} (s : WeakE e2 e) (h : WpC R P nt c e2 S Q) : WpC R P nt c e S Q :=
  fun cx w a K h1 h2 h3 => h cx w a K h1 (h2.weak s) h3
theorem WpL.weak {c : Code} {e2 e : Env} {S : St} {Q : Res → Prop} (s : WeakE e2 e) (h : WpL R P nt c e2 S Q) : WpL R P nt c e S Q :=
  fun cx w a K h1 h2 h3 => h cx w a K h1 (h2.weak s) h3

/-! ### Operations in the text's order -/

/-- What one operation comes to, if it is asked for. -/
def wpOp1 (R : ObjR) (C : Cfg) (nt : Nat) (dst : Option Nat) (op : Op) (e : Env) (S : St) (Q : Stp → Prop) : Prop :=
  (∃ v S' e', oper C (evalO e) S op = some (.val v S') ∧ e.put nt dst v = some e' ∧ Q (.go e' S')) ∨
  (∃ S', oper C (evalO e) S op = some (.skip S') ∧ dst = none ∧ Q (.go e S')) ∨
  (∃ f args, oper C (evalO e) S op = some (.call f args) ∧ SpecF R C.P f args S (fun r => match r with
    | (none, v, S') => ∃ e', e.put nt dst v = some e' ∧ Q (.go e' S')
    | (some p, _, S') => Q (.stop p S'))) ∨
  (∃ t x y ty xs b el, op = .binOp .eql t x y ty ∧ evalO e x = some (.d (.sl xs b)) ∧ evalO e y = some (.d .nils) ∧ C.P.underlying t = some (.slice el) ∧
    ∀ bb : Bool, (bb = true → xs = []) → ∃ e', e.put nt dst (.d (.bool bb)) = some e' ∧ Q (.go e' S))
theorem wpOp1.mono {dst : Option Nat} {op : Op} {e : Env} {S : St} {Q Q' : Stp → Prop} (h : wpOp1 R C nt dst op e S Q) (hq : ∀ r, Q r → Q' r) : wpOp1 R C nt dst op e S Q' := by
  rcases h with ⟨v, S', e', h1, h2, h3⟩ | ⟨S', h1, h2, h3⟩ | ⟨f, args, h1, h2⟩ | ⟨t, x, y, ty, xs, b, el, h1, h2, h3, h4, h5⟩
  · exact .inl ⟨v, S', e', h1, h2, hq _ h3⟩
  · exact .inr (.inl ⟨S', h1, h2, hq _ h3⟩)
  · exact .inr (.inr (.inl ⟨f, args, h1, h2.mono fun r hr => by
      obtain ⟨p, v, S'⟩ := r
      cases p with
      | none => obtain ⟨e', a, b⟩ := hr; exact ⟨e', a, hq _ b⟩
      | some p => exact hq _ hr⟩))
  · exact .inr (.inr (.inr ⟨t, x, y, ty, xs, b, el, h1, h2, h3, h4, fun bb hb => let ⟨e', a, c⟩ := h5 bb hb; ⟨e', a, hq _ c⟩⟩))

theorem DRel_nil {w : World} {fr : Nat → Nat → Prop} {xs : List D} {b : Bool} {v : Value} (h : DRel w fr (.sl xs b) v) : ∃ a n c, v = .slice a n c ∧ (a = none → xs = []) := by
  have h1 := h.val rfl
  cases h1 with
  | sl0 a cap _ _ => exact ⟨a, 0, cap, rfl, fun _ => rfl⟩
  | sl _ _ b off cap sz vs hne hcap ht hsz hlen hx hc => exact ⟨_, _, _, rfl, fun h => by cases h⟩

/-- What one operation comes to. -/
def wpStep (R : ObjR) (C : Cfg) (nt : Nat) (ops : Array Oper) (o : Oper) (e : Env) (S : St) (Q : Stp → Prop) : Prop :=
  (∃ t rs, o.op = .next (.tmp t) false ∧ nextL nt o t e S = some rs ∧ ∀ r ∈ rs, Q r) ∨
  (∃ e2, WeakE e2 e ∧ wantedE ops e o = some true ∧ wpOp1 R C nt o.dst o.op e2 S Q) ∨
  (∃ e2 e', WeakE e2 e ∧ wantedE ops e o = some false ∧ (match o.dst with | none => e' = e2 | some t => e2.put nt (some t) (.tup []) = some e') ∧ Q (.go e' S))
theorem wpStep.mono {ops : Array Oper} {o : Oper} {e : Env} {S : St} {Q Q' : Stp → Prop} (h : wpStep R C nt ops o e S Q) (hq : ∀ r, Q r → Q' r) : wpStep R C nt ops o e S Q' := by
  rcases h with ⟨t, rs, h1, h2, h3⟩ | ⟨e2, h1, h2, h3⟩ | ⟨e2, e', h1, h2, h3, h4⟩
  · exact .inl ⟨t, rs, h1, h2, fun r hr => hq r (h3 r hr)⟩
  · exact .inr (.inl ⟨e2, h1, h2, h3.mono hq⟩)
  · exact .inr (.inr ⟨e2, e', h1, h2, h3, hq _ h4⟩)

theorem wpStep_sound (hR : ObjOkC R C) {ops : Array Oper} {o : Oper} {e : Env} {S : St} {Q : Stp → Prop} (h : wpStep R C nt ops o e S Q) {cx : Cx} {w : World} {a : Act} (hS : SRel R cx S w) (he : ERel cx S w nt e a)
    {K : Act → World → Prop} {Kx : Exit → Act → World → Prop} (hk : ∀ r, Q r → After R cx S w nt a K Kx r) {i : Nat} (hi : ops[i]? = some o) : wpOp C.P ops Kx i K a w := by
  have hrefl := Ext.refl (cx := cx) w hS.wf
  rcases h with ⟨t, rs, h1, h2, h3⟩ | ⟨e2, hw, h1, h2⟩ | ⟨e2, e', hw, h1, h2, h3⟩
  · exact next_sound hR h1 h2 hS he (fun r hr => hk r (h3 r hr)) hi
  · have he2 := he.weak hw
    unfold wpOp
    rw [hi]
    simp only
    rw [if_pos (wanted_sound he h1)]
    left
    rcases h2 with ⟨v, S', e', h1, h2, h3⟩ | ⟨S', h1, h2, h3⟩ | ⟨f, args, h1, h2⟩ | ⟨t, x, y, ty, xs, b, el, hop, hx, hy, hu, hq⟩
    rotate_left 3
    · have rx := he2.eval x _ hx
      have ry := he2.eval y _ hy
      obtain ⟨a0, n, c, ex, hnil⟩ := DRel_nil rx.dd
      have ey : a.eval y = .slice none 0 0 := by
        have := ry.dd.val rfl
        generalize a.eval y = z at this
        cases this
        rfl
      have hrun : (execOp a.eval o).run C.P w = .ok (.value (.bool a0.isNone)) w := by
        obtain ⟨dst, op, ty', pos, after, guard⟩ := o
        simp only at hop
        subst hop
        exact exV (by
          rw [ex, ey]
          have hg : (eqGuard .eql t x y (.slice a0 n c) (.slice none 0 0)).run C.P w = .ok () w := guard_plain rfl
          simp only [Sem.run_bind, hg, Result.andThen_ok]
          exact Lib.run_eql_slice_nil w t el a0 n c 0 0 hu)
      obtain ⟨e', hp, hk'⟩ := hq a0.isNone (fun h => hnil (by cases a0 with | none => rfl | some a => cases h))
      unfold Oper.wp
      rw [hrun]
      exact hk _ hk' cx _ w hS hrefl (he2.put hp (.of_bool _)) (put_defers _ _ _)
    · obtain ⟨cx', w', u, k1, k2, k3, k4⟩ := oper_sound hR hS he2.eval o h1
      unfold Oper.wp
      rw [k1]
      exact hk _ h3 cx' _ w' k2 k3 ((he2.mono k3).put h2 k4) (put_defers _ _ _)
    · obtain ⟨cx', w', k1, k2, k3⟩ := oper_sound hR hS he2.eval o h1
      unfold Oper.wp
      rw [k1]
      show K (a.put o.dst undef) w'
      rw [h2]
      exact hk _ h3 cx' _ w' k2 k3 (he2.mono k3) rfl
    · obtain ⟨us, k1, k2, k3⟩ := oper_sound hR hS he2.eval o h1
      obtain ⟨⟨fn, f1, f2, f3⟩, hcalls⟩ := h2
      unfold Oper.wp
      rw [k3 fn f1 f2 f3]
      refine (hcalls cx w us hS k1 k2).mono (fun en w' hen => ?_)
      obtain ⟨⟨p, v, S'⟩, hq, cx', m1, m2, m3⟩ := hen
      cases p with
      | none =>
        obtain ⟨u, rfl, m3⟩ := m3
        obtain ⟨e', hp, hq⟩ := hq
        exact hk _ hq cx' _ w' m1 m2 ((he2.mono m2).put hp m3) (put_defers _ _ _)
      | some p =>
        obtain ⟨u, rfl, m3⟩ := m3
        exact hk _ hq cx' w' u m1 m2 m3
  · have he2 := he.weak hw
    unfold wpOp
    rw [hi]
    simp only
    rw [if_neg (by rw [wanted_sound he h1]; simp)]
    split at h2
    · rename_i hd
      subst h2
      rw [hd]
      exact hk _ h3 cx _ w hS hrefl he2 rfl
    · rename_i t hd
      rw [hd]
      exact hk _ h3 cx _ w hS hrefl (he2.put h2 (.tup [] [] rfl (fun i x v hx => by simp at hx))) (put_defers _ _ _)

/-- Steps that no code does: other words for the same memory. -/
def Ghost (R : ObjR) (nt : Nat) (e : Env) (S : St) (e2 : Env) (S2 : St) : Prop :=
  ∀ cx w a, SRel R cx S w → ERel cx S w nt e a → ∃ cx2, SRel R cx2 S2 w ∧ Ext cx S w cx2 S2 w ∧ ERel cx2 S2 w nt e2 a
theorem Ghost.refl (e : Env) (S : St) : Ghost R nt e S e S := fun cx w a h1 h2 => ⟨cx, h1, Ext.refl w h1.wf, h2⟩
theorem Ghost.weak {e2 e : Env} (S : St) (s : WeakE e2 e) : Ghost R nt e S e2 S := fun cx w a h1 h2 => ⟨cx, h1, Ext.refl w h1.wf, h2.weak s⟩
theorem Ghost.trans {e1 e2 e3 : Env} {S1 S2 S3 : St} (a : Ghost R nt e1 S1 e2 S2) (b : Ghost R nt e2 S2 e3 S3) : Ghost R nt e1 S1 e3 S3 := fun cx w ac h1 h2 => by
  obtain ⟨c2, q1, q2, q3⟩ := a cx w ac h1 h2
  obtain ⟨c3, r1, r2, r3⟩ := b c2 w ac q1 q3
  exact ⟨c3, r1, q2.trans r2, r3⟩
/-- Operations in order. -/
def wpO (R : ObjR) (C : Cfg) (nt : Nat) (ops : Array Oper) : List Oper → Env → St → (Stp → Prop) → Prop
  | [], e, S, Q => ∃ e2, WeakE e2 e ∧ Q (.go e2 S)
  | o :: rest, e, S, Q => ∃ e2 S2, Ghost R nt e S e2 S2 ∧ wpStep R C nt ops o e2 S2 (fun r => match r with
    | .go e' S' => wpO R C nt ops rest e' S' Q
    | .stop v S' => Q (.stop v S'))

theorem wpO.weak {ops : Array Oper} {l : List Oper} {e2 e : Env} {S : St} {Q : Stp → Prop} (s : WeakE e2 e) (h : wpO R C nt ops l e2 S Q) : wpO R C nt ops l e S Q := by
  cases l with
  | nil => obtain ⟨e3, h1, h2⟩ := h; exact ⟨e3, h1.trans s, h2⟩
  | cons o l => obtain ⟨e3, S3, h1, h2⟩ := h; exact ⟨e3, S3, (Ghost.weak S s).trans h1, h2⟩
theorem wpO.ghost {ops : Array Oper} {o : Oper} {l : List Oper} {e2 e : Env} {S S2 : St} {Q : Stp → Prop} (g : Ghost R nt e S e2 S2) (h : wpO R C nt ops (o :: l) e2 S2 Q) : wpO R C nt ops (o :: l) e S Q := by
  obtain ⟨e3, S3, h1, h2⟩ := h
  exact ⟨e3, S3, g.trans h1, h2⟩

theorem wpO_sound (hR : ObjOkC R C) {ops : Array Oper} {Kx : Exit → Act → World → Prop} : ∀ (l : List Oper) (k : Nat) {cx : Cx} {S : St} {w : World} {e : Env} {a : Act} {Q : Stp → Prop},
    (∀ j, l[j]? = ops[k + j]?) → wpO R C nt ops l e S Q → SRel R cx S w → ERel cx S w nt e a →
    (∀ r, Q r → match r with
      | .go e' S' => ∀ cx' a' w', SRel R cx' S' w' → Ext cx S w cx' S' w' → ERel cx' S' w' nt e' a' → a'.defers = a.defers → Kx .normal a' w'
      | .stop v S' => ∀ cx' a' w' u, SRel R cx' S' w' → Ext cx S w cx' S' w' → ARel cx' S' w' v u → a'.defers = a.defers → Kx (.panic [{ v := u, recovered := false }]) a' w') →
    wpOps C.P ops Kx ((List.range l.length).map (k + ·)) a w
  | [], k, cx, S, w, e, a, Q, hl, ⟨e2, hs, hev⟩, hS, he, hk => hk (.go e2 S) hev cx a w hS (Ext.refl w hS.wf) (he.weak hs) rfl
  | o :: l, k, cx, S, w, e, a, Q, hl, ⟨e2, S2, hs, hev⟩, hS, he, hk => by
    obtain ⟨c2, hS, x0, he⟩ := hs cx w a hS he
    replace hk : ∀ r, Q r → match r with
      | .go e' S' => ∀ cx' a' w', SRel R cx' S' w' → Ext c2 S2 w cx' S' w' → ERel cx' S' w' nt e' a' → a'.defers = a.defers → Kx .normal a' w'
      | .stop v S' => ∀ cx' a' w' u, SRel R cx' S' w' → Ext c2 S2 w cx' S' w' → ARel cx' S' w' v u → a'.defers = a.defers → Kx (.panic [{ v := u, recovered := false }]) a' w' := fun r hr => by
      have hk := hk r hr
      cases r with
      | go e' S' => exact fun cx' a' w' q1 q2 q3 q4 => hk cx' a' w' q1 (x0.trans q2) q3 q4
      | stop v S' => exact fun cx' a' w' u q1 q2 q3 q4 => hk cx' a' w' u q1 (x0.trans q2) q3 q4
    have h0 : ops[k]? = some o := by simpa using (hl 0).symm
    rw [List.length_cons, List.range_succ_eq_map, List.map_cons, wpOps_cons, Nat.add_zero]
    refine wpStep_sound hR hev hS he (fun r hr => ?_) h0
    cases r with
    | go e' S' =>
      intro cx1 a1 w1 s1 x1 er1 d1
      have ih := wpO_sound hR (Kx := Kx) l (k + 1) (cx := cx1) (S := S') (w := w1) (e := e') (a := a1) (Q := Q) (fun j => by have := hl (j + 1); simpa [Nat.add_assoc, Nat.add_comm 1 j] using this) hr s1 er1 (fun r hr => by
        have hk' := hk r hr
        cases r with
        | go e2 S2 => exact fun cx' a' w' q1 q2 q3 q4 => hk' cx' a' w' q1 (x1.trans q2) q3 (q4.trans d1)
        | stop v S2 => exact fun cx' a' w' u q1 q2 q3 q4 => hk' cx' a' w' u q1 (x1.trans q2) q3 (q4.trans d1))
      rw [List.map_map]
      have : ((fun x => k + x) ∘ Nat.succ) = (fun x => k + 1 + x) := by funext x; simp; omega
      rw [this]; exact ih
    | stop v S' => exact fun cx1 w1 u s1 x1 r1 => hk (.stop v S') hr cx1 a w1 u s1 x1 r1 rfl

/-- A region in the text's order. -/
theorem WpC.region (hR : ObjOkC R C) {id : Nat} {ops : Array Oper} {l : List Oper} (hl : ops.toList = l) {e : Env} {S : St} {Q : Res → Prop} (h : wpO R C nt ops l e S (fun r => Q (ofStp e r))) : WpC R C.P nt (.region id ops false) e S Q := by
  intro cx w a K h1 h2 h3
  refine wp_region ?_
  have := wpO_sound hR (Kx := K) ops.toList 0 (by simp) (hl ▸ h) h1 h2 (fun r hr => by
    have hk' := h3 _ hr
    cases r with
    | go e' S' => exact fun cx' a' w' q1 q2 q3 q4 => hk' cx' a' w' q1 q2 q3 q4
    | stop v S' => exact fun cx' a' w' u q1 q2 q3 q4 => hk' cx' a' w' u q1 q2 q3 q4)
  simpa using this

/-- A region that draws its order: where the order doesn't matter. -/
theorem WpC.draw (hR : ObjOkC R C) (hm : C.P.follows .mixedOrders = true) {h : HandL} (hh : HandOkL R C.P h) (hp : PureOk (det h)) {id : Nat} {ops : Array Oper} (hok : regOk ops = true) {l : List Oper} (hl : ops.toList = l)
    {e e' : Env} {S S' : St} {ks : List Did} {Q : Res → Prop} (hev : evOpsK C (det h) nt ops l e S = some (ks, e', S')) (hpk : pairsOk ops ks = true) (hq : Q (.normal, e', S')) : WpC R C.P nt (.region id ops true) e S Q := by
  intro cx w a K h1 h2 h3
  have hs : evC C h 0 nt (.region id ops true) e S = some [(.normal, e', S')] := by
    simp only [evC, hl, hev, hpk, cond_true]
  exact evC_sound hR hm hh hp (.region id ops true) (by simp [codeOk, hok]) cx S w e a _ K hs h1 h2 (fun r hr => by
    simp only [List.mem_singleton] at hr; subst hr; exact h3 _ hq)

/-! ### What calls come to, as a table -/

/-- One fact of a call: it is pure, or it leads from a state to a state. -/
inductive Fact where
  | pure (f : Nat) (args : List AV) (v : AV)
  | full (f : Nat) (args : List AV) (S : St) (v : AV) (S' : St)

/-- A call with plain data comes to plain data, and leaves the memory as it is. -/
def SpecV (R : ObjR) (P : Program) (f : Nat) (args : List AV) (v : AV) : Prop := ∀ S, SpecF R P f args S (fun r => r = (none, v, S))

def Fact.ok (R : ObjR) (P : Program) : Fact → Prop
  | .pure f args v => SpecV R P f args v
  | .full f args S v S' => SpecF R P f args S (fun r => r = (none, v, S')) ∧ ((toDs args).isSome && (toDT v).isSome) = false

def Fact.is (f : Nat) (args : List AV) (S : St) (v : AV) (S' : St) : Fact → Prop
  | .pure f' args' v' => f' = f ∧ args' = args ∧ v' = v ∧ S' = S
  | .full f' args' S1 v' S1' => f' = f ∧ args' = args ∧ S1 = S ∧ v' = v ∧ S1' = S'

open Classical in
/-- The table as what makes calls: it answers where just one answer is known. -/
def tableH (T : List Fact) : HandL := fun f args S =>
  if h : ∃ r : AV × St, (∃ x ∈ T, x.is f args S r.1 r.2) ∧ ∀ r' : AV × St, (∃ x ∈ T, x.is f args S r'.1 r'.2) → r' = r then some [(none, (Classical.choose h).1, (Classical.choose h).2)] else none

theorem tableH_inv {T : List Fact} {f : Nat} {args : List AV} {S : St} {rs : List Out} (h : tableH T f args S = some rs) : ∃ v S', rs = [(none, v, S')] ∧ (∃ x ∈ T, x.is f args S v S') ∧ ∀ v' S'', (∃ x ∈ T, x.is f args S v' S'') → v' = v ∧ S'' = S' := by
  unfold tableH at h
  split at h
  · rename_i hex
    have hc := Classical.choose_spec hex
    simp only [Option.some.injEq] at h
    exact ⟨_, _, h.symm, hc.1, fun v' S'' hx => by have := hc.2 (v', S'') hx; rw [← this]; exact ⟨rfl, rfl⟩⟩
  · cases h

theorem tableH_ok {T : List Fact} (hT : ∀ x ∈ T, x.ok R P) : HandOkL R P (tableH T) := by
  intro f args S rs h
  obtain ⟨v, S', rfl, ⟨x, hx, hi⟩, _⟩ := tableH_inv h
  have hok := hT x hx
  have key : SpecF R P f args S (fun r => r = (none, v, S')) := by
    cases x with
    | pure f' args' v' =>
      obtain ⟨rfl, rfl, rfl, rfl⟩ := hi
      exact hok _
    | full f' args' S1 v' S1' =>
      obtain ⟨rfl, rfl, rfl, rfl, rfl⟩ := hi
      exact hok.1
  refine ⟨key.1, fun cx w us h1 h2 h3 => (key.2 cx w us h1 h2 h3).mono fun e w' ⟨r, q, k⟩ => ⟨r, by simp [q], k⟩⟩

/-! ### From a function's code to what a call comes to -/

/-- The end of a function. -/
def endQ (C : Cfg) (fn : Func) (Q : Out → Prop) : Res → Prop
  | (.normal, e, S) => ∃ v, resultsE C fn e S = some v ∧ Q (none, v, S)
  | (.ret, e, S) => ∃ v, resultsE C fn e S = some v ∧ Q (none, v, S)
  | (.panic v, _, S) => Q (some v, .d (.bool false), S)
  | _ => False

theorem SpecF.of_wp {f : Nat} {fn : Func} {c : Code} (hf : C.P.funcs[f]? = some fn) (hc : fn.body = some c) (hn : (fn.name == "runtime.NumGoroutine") = false) {args : List AV} (hle : args.length ≤ fn.ntmps) {S : St} {Q : Out → Prop}
    (h : WpC R C.P fn.ntmps c (enterE 0 args) S (endQ C fn Q)) : SpecF R C.P f args S Q := by
  refine ⟨⟨fn, hf, by simp [hc], by simpa using hn⟩, fun cx w us hS hl hr => ?_⟩
  refine calls_of_wp hf hc ?_
  have he : ERel cx S w fn.ntmps (enterE 0 args) { tmps := us.toArray ++ Array.replicate (fn.ntmps - us.toArray.size) undef, defers := [] } := by
    refine ⟨by simp; omega, fun t x hx => ?_⟩
    rw [enterE_get] at hx
    simp only [Nat.zero_le, if_true, Nat.sub_zero] at hx
    have hlt : t < us.length := by rw [hl]; exact (List.getElem?_eq_some_iff.1 hx).1
    have hu := List.getElem?_eq_getElem hlt
    exact ⟨us[t], by rw [Array.getElem?_append_left (by simpa using hlt)]; simp, hr t x _ hx hu⟩
  refine h cx w _ _ hS he (fun r hr => ?_)
  obtain ⟨x, e, S1⟩ := r
  cases x with
  | normal =>
    obtain ⟨rv, hrv, hq⟩ := hr
    intro cx' a' w' q1 q2 q3 q4
    obtain ⟨u, r1, r2⟩ := results_sound q1 q3 hrv
    exact ⟨q4, u, r1, _, hq, cx', q1, q2, u, rfl, r2⟩
  | ret =>
    obtain ⟨rv, hrv, hq⟩ := hr
    intro cx' a' w' q1 q2 q3 q4
    obtain ⟨u, r1, r2⟩ := results_sound q1 q3 hrv
    exact ⟨q4, u, r1, _, hq, cx', q1, q2, u, rfl, r2⟩
  | panic pv =>
    intro cx' a' w' u q1 q2 q3 q4
    exact ⟨q4, _, hr, cx', q1, q2, u, rfl, q3⟩
  | exit id => exact hr.elim

/-- A call with plain data, carried out in a memory of its own. -/
theorem SpecV.of (hR : ObjOk R) {f : Nat} {ds : List D} {args : List AV} {v : AV} (ha : toDs args = some ds) (h : SpecF R P f (ds.map .d) pureSt (fun r => r.1 = none ∧ toDT r.2.1 = some v)) : SpecV R P f args v := by
  intro S
  obtain ⟨d1, d2⟩ := toDs_spec ha
  refine ⟨h.1, fun cx w us hS hl hr => ?_⟩
  refine (h.2 cx w us (pure_rel hS) (by simp [hl, d1]) (fun i x u hx hu => ?_)).mono (fun e w' he => ?_)
  · simp only [List.getElem?_map, Option.map_eq_some_iff] at hx
    obtain ⟨y, hy, rfl⟩ := hx
    have hlt : i < args.length := by rw [← d1]; exact (List.getElem?_eq_some_iff.1 hy).1
    have ha := List.getElem?_eq_getElem hlt
    exact .d y u (toD_sound (d2 i _ y ha hy) (hr i _ u ha hu))
  · obtain ⟨⟨p, v1, S1⟩, ⟨hp, hv⟩, cx1, k1, k2, k3⟩ := he
    simp only at hp hv
    subst hp
    obtain ⟨m1, m2, m3⟩ := pure_back hR hS k2
    obtain ⟨u, rfl, k3⟩ := k3
    exact ⟨_, rfl, cx, m1, m2, u, rfl, toDT_sound hv k3 m3⟩

/-- A pure call, where the slots hold other words for the same data. -/
theorem SpecV.args (hR : ObjOk R) {f : Nat} {ds : List D} {args : List AV} {v : AV} (ha : toDs args = some ds) (hv : toDT v = some v) (h : SpecV R P f (ds.map .d) v) : SpecV R P f args v :=
  .of hR ha ((h pureSt).mono fun r hr => by subst hr; exact ⟨rfl, hv⟩)

/-- What a function of plain data answers. -/
theorem SpecV.of_wp (hR : ObjOk R) {f : Nat} {fn : Func} {c : Code} (hf : C.P.funcs[f]? = some fn) (hc : fn.body = some c) (hn : (fn.name == "runtime.NumGoroutine") = false) {ds : List D} (hle : ds.length ≤ fn.ntmps) {v : AV}
    (h : WpC R C.P fn.ntmps c (enterE 0 (ds.map .d)) pureSt (endQ C fn (fun r => r.1 = none ∧ toDT r.2.1 = some v))) : SpecV R C.P f (ds.map .d) v :=
  .of hR (by
    clear h hle
    induction ds with
    | nil => rfl
    | cons x l ih => simp [toDs, toD, ih]) (.of_wp hf hc hn (by simpa using hle) h)

end
end Go.Ev


namespace Go.Ev
noncomputable section
set_option linter.unusedVariables false
set_option linter.unusedSimpArgs false
variable {R : ObjR} {C : Cfg} {P : Program} {nt : Nat}

/-! ### What is made and not needed any more is let go -/

def Blk.under (n : Nat) : Blk → Prop
  | .cells _ cs => ∀ x ∈ cs, x.under n = true
  | .map m => ∀ p ∈ m.es, p.2.1.under n = true
  | .obj _ _ => True

structure SubSt (S0 S S2 : St) : Prop where
  nx : S2.nx = S0.nx
  H : ∀ id b, S2.H.get id = some b → S.H.get id = some b ∧ live S0 id ∧ b.under S0.nx
  T : ∀ id n, S2.T.get id = some n → S.T.get id = some n ∧ live S0 id

theorem belows_all {n : Nat} : ∀ {l : List AV}, (∀ x ∈ l, x.under n = true) → belows n l = true
  | [], _ => rfl
  | x :: l, h => by simp only [belows, h x List.mem_cons_self, belows_all (fun y hy => h y (List.mem_cons_of_mem _ hy)), Bool.and_self]

theorem belows_rel {n : Nat} {xs : List AV} {vs : List Value} (hl : vs.length = xs.length) (h : ∀ (i : Nat) (x : AV) (v : Value), xs[i]? = some x → vs[i]? = some v → x.under n = true) : belows n xs = true :=
  belows_all fun x hx => by
    obtain ⟨i, hi, rfl⟩ := List.getElem_of_mem hx
    exact h i xs[i] vs[i] (List.getElem?_eq_getElem hi) (List.getElem?_eq_getElem (by omega))

theorem ARel.under {cx : Cx} {S : St} {w : World} {x : AV} {v : Value} (h : ARel cx S w x v) : x.under S.nx = true := by
  have bl : ∀ {a b : Nat}, a < b → Nat.blt a b = true := fun h => Nat.ble_eq_true_of_le h
  induction h with
  | d x v h => rfl
  | tsl xs tok b off cap hn h hp => exact bl hn.1
  | ptr id g off b hn hp => exact bl hn.1
  | msl id g off len lim sz b cap hn hl hcap h63 hp => exact bl hn.1
  | asl id g off len sz b hn h63 hp => exact bl hn.1
  | eptr x off b o vs h hc => rfl
  | map id b hn hp => exact bl hn.1
  | fn f cs vs hl h ih => simp only [AV.under]; exact belows_rel hl ih
  | agg xs vs hl ho h ih => simp only [AV.under]; exact belows_rel hl ih
  | tup xs vs hl h ih => simp only [AV.under]; exact belows_rel hl ih
  | any v => rfl
  | it0 k g since st b seen hn hp => exact bl hn.1
  | it k g id since st b m seen hn hni hm hp => simp only [AV.under, bl hn.1, bl hni.1, Bool.and_self]

theorem SRel.under {cx : Cx} {S : St} {w : World} (h : SRel R cx S w) {id : Nat} {b : Blk} (hb : S.H.get id = some b) : b.under S.nx := by
  cases b with
  | cells g cs =>
    obtain ⟨_, _, arr, el, _, _, h3⟩ := h.cells id g cs hb
    intro x hx
    obtain ⟨i, hi, rfl⟩ := List.getElem_of_mem hx
    obtain ⟨v, _, h4, _⟩ := h3 i cs[i] (List.getElem?_eq_getElem hi)
    exact h4.under
  | map m =>
    obtain ⟨_, _, ms, clk, _, ⟨h2, _, _⟩, h3⟩ := h.maps id m hb
    intro p hp
    obtain ⟨i, hi, rfl⟩ := List.getElem_of_mem hp
    exact (h3 i m.es[i] ms[i] (List.getElem?_eq_getElem hi) (Array.getElem?_eq_getElem (by omega))).2.under
  | obj k x => trivial

theorem sub_cur {cx : Cx} {S0 S S2 : St} {w : World} (h : SRel R cx S w) (s : SubSt S0 S S2) {id g : Nat} (hc : cur S2 id = some g) : cur S id = some g := by
  unfold cur at hc ⊢
  cases hH : AL.get S2.H id with
  | some b =>
    rw [hH] at hc
    rw [(s.H id b hH).1]
    cases b <;> exact hc
  | none =>
    rw [hH] at hc
    simp only at hc
    have hT := (s.T _ _ hc).1
    cases hS : S.H.get id with
    | some b => have := h.dis id b hS; rw [this] at hT; cases hT
    | none => exact hT

theorem sub_live {S0 S S2 : St} (s : SubSt S0 S S2) {id : Nat} (hl : live S2 id) : live S0 id := by
  cases hH : AL.get S2.H id with
  | some b => exact (s.H id b hH).2.1
  | none =>
    cases hT : AL.get S2.T id with
    | none => exact absurd (by unfold cur; rw [hH]; exact hT) hl
    | some en => exact (s.T id en hT).2

theorem sub_isIt {S0 S S2 : St} (s : SubSt S0 S S2) {k g : Nat} (h : isIt S2 k g) : isIt S k g := (s.H _ _ h).1
theorem sub_liveS {cx : Cx} {S0 S S2 : St} {w : World} (h : SRel R cx S w) (s : SubSt S0 S S2) {i : Nat} (hi : cur S2 i ≠ none) : cur S i ≠ none := by
  cases hc : cur S2 i with
  | none => exact absurd hc hi
  | some g => rw [sub_cur h s hc]; simp

theorem ARel.sub {cx : Cx} {S0 S S2 : St} {w : World} (h : SRel R cx S w) (s : SubSt S0 S S2) {x : AV} {v : Value} (hx : ARel cx S w x v) (hu : x.under S0.nx = true) : ARel cx S2 w x v := by
  have nm : ∀ {id g : Nat}, Names S id g → id < S0.nx → Names S2 id g := fun hn hlt => ⟨by rw [s.nx]; exact hlt, fun g' hg => hn.2 g' (sub_cur h s hg)⟩
  induction hx with
  | d x v hd => exact .d x v hd
  | tsl xs tok b off cap hn hd hp =>
    simp only [AV.under] at hu
    exact .tsl xs tok b off cap (nm hn (Nat.le_of_ble_eq_true hu)) hd (fun hc => hp (sub_cur h s hc))
  | ptr id g off b hn hp =>
    simp only [AV.under] at hu
    exact .ptr id g off b (nm hn (Nat.le_of_ble_eq_true hu)) (fun hc => hp (sub_cur h s hc))
  | msl id g off len lim sz b cap hn hl hcap h63 hp =>
    simp only [AV.under] at hu
    exact .msl id g off len lim sz b cap (nm hn (Nat.le_of_ble_eq_true hu)) hl hcap h63 (fun hc => hp (sub_cur h s hc))
  | any v => exact .any v
  | eptr x off b o vs hd hc => exact .eptr x off b o vs hd hc
  | map id b hn hp =>
    simp only [AV.under] at hu
    exact .map id b (nm hn (Nat.le_of_ble_eq_true hu)) (fun hc => hp (sub_cur h s hc))
  | asl id g off len sz b hn h63 hp =>
    simp only [AV.under] at hu
    exact .asl id g off len sz b (nm hn (Nat.le_of_ble_eq_true hu)) h63 (fun hc => hp (sub_cur h s hc))
  | fn f cs vs hl hr ih => exact .fn f cs vs hl (fun i x v hx hv => ih i x v hx hv (by simp only [AV.under] at hu; exact belows_mem hu x (List.mem_of_getElem? hx)))
  | agg xs vs hl ho hr ih => exact .agg xs vs hl ho (fun i x v hx hv => ih i x v hx hv (by simp only [AV.under] at hu; exact belows_mem hu x (List.mem_of_getElem? hx)))
  | tup xs vs hl hr ih => exact .tup xs vs hl (fun i x v hx hv => ih i x v hx hv (by simp only [AV.under] at hu; exact belows_mem hu x (List.mem_of_getElem? hx)))
  | it0 k g since st b seen hn hp =>
    simp only [AV.under] at hu
    refine .it0 k g since st b seen (nm hn (Nat.le_of_ble_eq_true hu)) (fun hk => ?_)
    obtain ⟨p1, p2, p3, p4⟩ := hp (sub_isIt s hk)
    exact ⟨p1, p2, fun i hi hf => p3 i (sub_liveS h s hi) hf, p4⟩
  | it k g id since st b m seen hn hni hm hp =>
    simp only [AV.under, Bool.and_eq_true] at hu
    refine .it k g id since st b m seen (nm hn (Nat.le_of_ble_eq_true hu.1)) (nm hni (Nat.le_of_ble_eq_true hu.2)) (fun hc => hm (sub_cur h s hc)) (fun hk => ?_)
    obtain ⟨p1, p2, p3, p4⟩ := hp (sub_isIt s hk)
    exact ⟨p1, p2, fun i hi hf => p3 i (sub_liveS h s hi) hf, p4⟩

theorem sub_sound {cx0 cx : Cx} {S0 S S2 : St} {w0 w : World} (wf0 : ∀ id, live S0 id → id < S0.nx) (h : SRel R cx S w) (e : Ext cx0 S0 w0 cx S w) (s : SubSt S0 S S2) :
    SRel R cx S2 w ∧ Ext cx0 S0 w0 cx S2 w := by
  have hlS : ∀ id, live S2 id → live S id := fun id hl => sub_liveS h s hl
  refine ⟨⟨fun id hl => by rw [s.nx]; exact wf0 id (sub_live s hl), fun id b hi => ?_, fun id g cs hi => ?_, fun id es hi => ?_, fun id k x hi => ?_, fun id en hi => ?_, fun id id' b a1 a2 => h.sep id id' b (hlS id a1) (hlS id' a2), h.lt, h.stat⟩, ?_⟩
  · have hS := (s.H _ _ hi).1
    cases hT : S2.T.get id with
    | none => rfl
    | some en => have := (s.T _ _ hT).1; rw [h.dis id b hS] at this; cases this
  · obtain ⟨hS, _, hbl⟩ := s.H _ _ hi
    obtain ⟨c1, c2, arr, el, c3, c4, c5⟩ := h.cells id g cs hS
    refine ⟨c1, c2, arr, el, c3, c4, fun i x hx => ?_⟩
    obtain ⟨v, v1, v2, v3⟩ := c5 i x hx
    exact ⟨v, v1, v2.sub h s (hbl x (List.mem_of_getElem? hx)), v3⟩
  · obtain ⟨hS, _, hbl⟩ := s.H _ _ hi
    obtain ⟨c1, c2, ms, clk, c3, c4, c5⟩ := h.maps id es hS
    refine ⟨c1, c2, ms, clk, c3, c4, fun i p m hp hm => ?_⟩
    obtain ⟨v1, v2⟩ := c5 i p m hp hm
    exact ⟨v1, v2.sub h s (hbl p (List.mem_of_getElem? hp))⟩
  · exact h.objs id k x (s.H _ _ hi).1
  · exact h.toks id en (s.T _ _ hi).1
  · refine ⟨e.size, e.os, e.tape, e.output, by rw [s.nx]; exact Nat.le_refl _, e.prot, fun b hb hn => e.other b hb (fun id hl hf => by
      obtain ⟨q1, g, q2, q3⟩ := hn id hl hf
      exact ⟨q1, g, q2, sub_isIt s q3⟩), fun id b hl hf => ?_, fun id g hid hi => e.back id g hid (sub_isIt s hi), fun id g b hid h0 hi hf => e.keep id g b hid h0 (sub_isIt s hi) hf, fun id g hid hg => e.curs id g hid (sub_cur h s hg)⟩
    exact e.own id b (hlS id hl) hf

/-- All that there was is there as it was. -/
structure Keeps (S S' : St) : Prop where
  nx : S.nx ≤ S'.nx
  H : ∀ id b, S.H.get id = some b → S'.H.get id = some b
  T : ∀ id n, S.T.get id = some n → S'.T.get id = some n

theorem Keeps.refl (S : St) : Keeps S S := ⟨Nat.le_refl _, fun _ _ h => h, fun _ _ h => h⟩
theorem Keeps.trans {S S' S'' : St} (a : Keeps S S') (b : Keeps S' S'') : Keeps S S'' := ⟨Nat.le_trans a.nx b.nx, fun _ _ h => b.H _ _ (a.H _ _ h), fun _ _ h => b.T _ _ (a.T _ _ h)⟩

theorem Keeps.sub {cx : Cx} {S S' : St} {w : World} (h : SRel R cx S w) (k : Keeps S S') : SubSt S S' S where
  nx := rfl
  H := fun id b hb => ⟨k.H id b hb, by unfold live cur; rw [hb]; cases b <;> simp, h.under hb⟩
  T := fun id n hn => ⟨k.T id n hn, by
    unfold live cur
    cases hH : S.H.get id with
    | none => simp only [hn]; simp
    | some b => cases b <;> simp⟩

/-- Slots that name nothing new. -/
def UnderE (n : Nat) (e : Env) : Prop := ∀ p ∈ e, p.2.under n = true
def Xit.under (n : Nat) : Xit → Prop
  | .panic v => v.under n = true
  | _ => True

theorem UnderE.get {n : Nat} {e : Env} (h : UnderE n e) {t : Nat} {x : AV} (hx : AL.get e t = some x) : x.under n = true := by
  induction e with
  | nil => simp [AL.get] at hx
  | cons p l ih =>
    obtain ⟨k, v⟩ := p
    rw [AL.get_cons] at hx
    by_cases hk : k = t
    · rw [if_pos hk] at hx; cases hx; exact h _ List.mem_cons_self
    · rw [if_neg hk] at hx; exact ih (fun p hp => h p (List.mem_cons_of_mem _ hp)) hx

theorem ERel.toSub {cx : Cx} {S0 S S2 : St} {w : World} {e2 e : Env} {a : Act} (h : SRel R cx S w) (s : SubSt S0 S S2) (he : ERel cx S w nt e a) (hs : Sub e2 e) (hu : UnderE S0.nx e2) : ERel cx S2 w nt e2 a :=
  ⟨he.size, fun t x hx => by
    obtain ⟨v, v1, v2⟩ := he.rel t x (hs t x hx)
    exact ⟨v, v1, v2.sub h s (hu.get hx)⟩⟩

/-- What is left may be told with fewer slots, and with part of the memory. -/
def DropTo (S : St) (Q : Res → Prop) : Res → Prop := fun r => ∃ e2 S2, Sub e2 r.2.1 ∧ UnderE S.nx e2 ∧ r.1.under S.nx ∧ SubSt S r.2.2 S2 ∧ Q (r.1, e2, S2)

theorem Fin.drop {cx : Cx} {S : St} {w : World} {a : Act} {K : Exit → Act → World → Prop} (hS : SRel R cx S w) {x : Xit} {e e2 : Env} {S' S2 : St} (hs : Sub e2 e) (hu : UnderE S.nx e2) (hx : x.under S.nx) (s : SubSt S S' S2) (h : Fin R cx S w nt a K (x, e2, S2)) :
    Fin R cx S w nt a K (x, e, S') := by
  cases x with
  | normal => exact fun cx' a' w' q1 q2 q3 q4 => let ⟨d1, d2⟩ := sub_sound hS.wf q1 q2 s; h cx' a' w' d1 d2 (q3.toSub q1 s hs hu) q4
  | exit id => exact fun cx' a' w' q1 q2 q3 q4 => let ⟨d1, d2⟩ := sub_sound hS.wf q1 q2 s; h cx' a' w' d1 d2 (q3.toSub q1 s hs hu) q4
  | ret => exact fun cx' a' w' q1 q2 q3 q4 => let ⟨d1, d2⟩ := sub_sound hS.wf q1 q2 s; h cx' a' w' d1 d2 (q3.toSub q1 s hs hu) q4
  | panic v => exact fun cx' a' w' u q1 q2 q3 q4 => let ⟨d1, d2⟩ := sub_sound hS.wf q1 q2 s; h cx' a' w' u d1 d2 (q3.sub q1 s hx) q4

theorem WpC.drop {c : Code} {e : Env} {S : St} {Q : Res → Prop} (h : WpC R P nt c e S (DropTo S Q)) : WpC R P nt c e S Q :=
  fun cx w a K h1 h2 h3 => h cx w a K h1 h2 (fun r ⟨e2, S2, q1, q2, q3, q4, q5⟩ => Fin.drop h1 q1 q2 q3 q4 (h3 _ q5))

/-- Back to the memory of the beginning. -/
def BackTo (S : St) (Q : Res → Prop) : Res → Prop := fun r => ∃ e2, Sub e2 r.2.1 ∧ UnderE S.nx e2 ∧ r.1.under S.nx ∧ Keeps S r.2.2 ∧ Q (r.1, e2, S)

theorem WpC.back {c : Code} {e : Env} {S : St} {Q : Res → Prop} (h : WpC R P nt c e S (BackTo S Q)) : WpC R P nt c e S Q :=
  fun cx w a K h1 h2 h3 => h cx w a K h1 h2 (fun r ⟨e2, q1, q2, q3, q4, q5⟩ => Fin.drop h1 q1 q2 q3 (q4.sub h1) (h3 _ q5))

/-- A memory whose numbers are in order. -/
def St.Wf (S : St) : Prop := ∀ id, live S id → id < S.nx
theorem St.Wf.H {S : St} (h : S.Wf) {id : Nat} {b : Blk} (hb : S.H.get id = some b) : id < S.nx := h id (by unfold live cur; rw [hb]; cases b <;> simp)
theorem St.Wf.fresh {S : St} (h : S.Wf) {id : Nat} (hi : S.nx ≤ id) : S.H.get id = none := by
  cases hb : S.H.get id with
  | none => rfl
  | some b => have := h.H hb; omega

theorem WpC.wf {c : Code} {e : Env} {S : St} {Q : Res → Prop} (h : S.Wf → WpC R P nt c e S Q) : WpC R P nt c e S Q := fun cx w a K h1 => h h1.wf cx w a K h1
theorem WpL.wf {c : Code} {e : Env} {S : St} {Q : Res → Prop} (h : S.Wf → WpL R P nt c e S Q) : WpL R P nt c e S Q := fun cx w a K h1 => h h1.wf cx w a K h1
theorem SpecF.wf {f : Nat} {args : List AV} {S : St} {Q : Out → Prop} (hx : ∃ fn, P.funcs[f]? = some fn ∧ fn.body.isSome = true ∧ fn.name ≠ "runtime.NumGoroutine") (h : S.Wf → SpecF R P f args S Q) : SpecF R P f args S Q :=
  ⟨hx, fun cx w us h1 => (h h1.wf).2 cx w us h1⟩

theorem SpecF.drop {f : Nat} {args : List AV} {S : St} {Q : Out → Prop} (h : SpecF R P f args S (fun r => ∃ S2, r.1 = none ∧ r.2.1.under S.nx = true ∧ SubSt S r.2.2 S2 ∧ Q (none, r.2.1, S2))) : SpecF R P f args S Q :=
  ⟨h.1, fun cx w us h1 h2 h3 => (h.2 cx w us h1 h2 h3).mono fun en w' ⟨⟨p, v, S'⟩, ⟨S2, q0, q1, q2, q3⟩, cx', k1, k2, k3⟩ => by
    simp only at q0
    subst q0
    obtain ⟨d1, d2⟩ := sub_sound h1.wf k1 k2 q2
    obtain ⟨u, rfl, k3⟩ := k3
    exact ⟨_, q3, cx', d1, d2, u, rfl, k3.sub k1 q2 q1⟩⟩

theorem SpecF.back {f : Nat} {args : List AV} {S : St} {Q : Out → Prop} (h : SpecF R P f args S (fun r => r.1 = none ∧ r.2.1.under S.nx = true ∧ Keeps S r.2.2 ∧ Q (none, r.2.1, S))) : SpecF R P f args S Q :=
  ⟨h.1, fun cx w us h1 h2 h3 => (SpecF.drop (Q := Q) ⟨h.1, fun cx2 w2 us2 k1 k2 k3 => (h.2 cx2 w2 us2 k1 k2 k3).mono fun en w' ⟨r, ⟨q0, q1, q2, q3⟩, k⟩ => ⟨r, ⟨S, q0, q1, q2.sub k1, q3⟩, k⟩⟩).2 cx w us h1 h2 h3⟩

theorem wpO.nil {ops : Array Oper} {e : Env} {S : St} {Q : Stp → Prop} (h : Q (.go e S)) : wpO R C nt ops [] e S Q := ⟨e, .refl e, h⟩

end
end Go.Ev


namespace Go.Ev
noncomputable section
set_option linter.unusedVariables false
set_option linter.unusedSimpArgs false
variable {R : ObjR} {C : Cfg} {P : Program} {nt : Nat}

/-! ### Words that say less -/
mutual
/-- A slice without a word on its room, or on whether it is nil. -/
def D.cn : D → D
  | .nils => .sl [] false
  | .sl xs _ => .sl (D.cns xs) false
  | .agg xs => .agg (D.cns xs)
  | .iface t x => .iface t (D.cn x)
  | x => x
def D.cns : List D → List D
  | [] => []
  | x :: xs => D.cn x :: D.cns xs
end
theorem D.cns_map : ∀ (l : List D), D.cns l = l.map D.cn
  | [] => rfl
  | x :: l => by rw [D.cns, D.cns_map l]; rfl

theorem D.cn_isAgg (x : D) : x.cn.isAgg = x.isAgg := by cases x <;> rfl
theorem D.cn_cells (x : D) : x.cn.cells = x.cells.map D.cn := by
  cases x <;> simp [D.cn, D.cells, D.cns_map]

theorem CRel.cn {w : World} {fr : Nat → Nat → Prop} {x : D} {vs : List Value} (h : CRel w fr x vs) : CRel w fr x.cn vs := by
  induction h with
  | bool b => exact .bool b
  | int k n => exact .int k n
  | flt k b => exact .flt k b
  | str s => exact .str s
  | nilp => exact .nilp
  | nilm => exact .nilm
  | nilf => exact .nilf
  | nili => exact .nili
  | nils => exact .sl0 none 0 false (fun h => by cases h)
  | sl0 a cap t h => exact .sl0 a cap false (fun h => by cases h)
  | sl xs t b off cap sz vs hne hcap ht hsz hlen hx hc ih =>
    have hl : xs.length = (D.cns xs).length := by rw [D.cns_map]; simp
    simp only [D.cn]
    rw [hl]
    refine .sl (D.cns xs) false b off cap sz vs (by rw [D.cns_map]; simpa using hne) (by rw [← hl]; exact hcap) (fun h => by cases h) (fun i x hi => ?_) (fun i hi => hlen i (by rw [hl]; exact hi)) (fun i x hi => ?_) (fun i j v hi hv => hc i j v (by rw [hl]; exact hi) hv)
    · rw [D.cns_map, List.getElem?_map, Option.map_eq_some_iff] at hi
      obtain ⟨y, hy, rfl⟩ := hi
      rw [D.cn_cells, List.length_map]; exact hsz i y hy
    · rw [D.cns_map, List.getElem?_map, Option.map_eq_some_iff] at hi
      obtain ⟨y, hy, rfl⟩ := hi
      exact ih i y hy
  | agg xs vs hl ho hn h ih =>
    refine .agg (D.cns xs) vs (by rw [D.cns_map]; simpa using hl) ho (fun x hx => ?_) (fun i x v hx hv => ?_)
    · rw [D.cns_map, List.mem_map] at hx
      obtain ⟨y, hy, rfl⟩ := hx
      rw [D.cn_isAgg]; exact hn y hy
    · rw [D.cns_map, List.getElem?_map, Option.map_eq_some_iff] at hx
      obtain ⟨y, hy, rfl⟩ := hx
      exact ih i y v hy hv
  | iface t x v hs h ih => exact .iface t x.cn v (by rw [D.cn_isAgg]; exact hs) ih

theorem DRel.cn {w : World} {fr : Nat → Nat → Prop} {x : D} {v : Value} (h : DRel w fr x v) : DRel w fr x.cn v := ⟨h.1.cn, by rw [D.cn_isAgg]; exact h.2⟩

theorem Less.cn (x : D) : Less (.d x.cn) (.d x) := fun cx S w v h => .d _ _ h.dd.cn
theorem Less.any (x : AV) : Less .any x := fun _ _ _ v _ => .any v
theorem Less.toD {x : AV} {d : D} (h : toD x = some d) : Less (.d d.cn) x := fun cx S w v hr => .d _ _ (toD_sound h hr).cn

theorem WpC.less {c : Code} {t : Nat} {x y : AV} {e : Env} {S : St} {Q : Res → Prop} (h : Less y x) (k : WpC R P nt c ((t, y) :: e) S Q) : WpC R P nt c ((t, x) :: e) S Q :=
  fun cx w a K h1 h2 h3 => k cx w a K h1 ⟨h2.size, fun u z hz => by
    rw [AL.get_cons] at hz
    by_cases hu : t = u
    · rw [if_pos hu] at hz; cases hz
      obtain ⟨v, v1, v2⟩ := h2.rel t x (by rw [AL.get_cons, if_pos rfl])
      subst hu
      exact ⟨v, v1, h _ _ _ _ v2⟩
    · rw [if_neg hu] at hz
      exact h2.rel u z (by rw [AL.get_cons, if_neg hu]; exact hz)⟩ h3

/-! ### What a function of plain data answers -/

/-- Data that says less. -/
def DLess (y x : D) : Prop := ∀ (w : World) (fr : Nat → Nat → Prop) (v : Value), DRel w fr x v → DRel w fr y v
theorem DLess.refl (x : D) : DLess x x := fun _ _ _ h => h
theorem DLess.trans {x y z : D} (a : DLess z y) (b : DLess y x) : DLess z x := fun w fr v h => a w fr v (b w fr v h)
theorem DLess.cn (x : D) : DLess x.cn x := fun _ _ _ h => h.cn
theorem DLess.of_cn {x y : D} (h : x.cn = y) : DLess y x := h ▸ DLess.cn x
theorem DLess.less {x y : D} (h : DLess y x) : Less (.d y) (.d x) := fun cx S w v hr => .d _ _ (h _ _ _ hr.dd)
inductive DLessL : List D → List D → Prop
  | nil : DLessL [] []
  | cons {y x : D} {ys xs : List D} (h : DLess y x) (k : DLessL ys xs) : DLessL (y :: ys) (x :: xs)
theorem DLessL.len {ys xs : List D} (h : DLessL ys xs) : ys.length = xs.length := by
  induction h with
  | nil => rfl
  | cons _ _ ih => simp [ih]
theorem DLessL.get {ys xs : List D} (h : DLessL ys xs) : ∀ {i : Nat} {y x : D}, ys[i]? = some y → xs[i]? = some x → DLess y x := by
  induction h with
  | nil => intro i y x h; simp at h
  | cons h k ih =>
    intro i y x h1 h2
    cases i with
    | zero => simp at h1 h2; subst h1; subst h2; exact h
    | succ i => exact ih (by simpa using h1) (by simpa using h2)
theorem DLessL.refl : ∀ (l : List D), DLessL l l
  | [] => .nil
  | x :: l => .cons (.refl x) (.refl l)

/-- Words of plain data, told with words that say less. -/
def ArgsC (args : List AV) (ds : List D) : Prop := ∃ ds', toDs args = some ds' ∧ DLessL ds ds'

/-- A call with plain data comes to plain data, and leaves the memory as it is. -/
def SpecC (R : ObjR) (P : Program) (f : Nat) (ds : List D) (v : AV) : Prop := ∀ args S, ArgsC args ds → SpecF R P f args S (fun r => r = (none, v, S))

/-- What is answered, told with words that say less. -/
inductive AnsL : AV → AV → Prop
  | one {y x : D} (h : DLess y x) : AnsL (.d y) (.d x)
  | tup {ys xs : List D} (h : DLessL ys xs) : AnsL (.tup (ys.map .d)) (.tup (xs.map .d))

theorem AnsL.rel {y x : AV} (h : AnsL y x) {cx : Cx} {S : St} {w : World} {v : Value} (hr : ARel cx S w x v) : ARel cx S w y v := by
  cases h with
  | one h => exact h.less cx S w v hr
  | tup h =>
    cases hr with
    | tup _ us hl hr =>
      refine .tup _ us (by rw [hl]; simp [h.len]) (fun i x z hx hz => ?_)
      simp only [List.getElem?_map, Option.map_eq_some_iff] at hx
      obtain ⟨y, hy, rfl⟩ := hx
      rename_i xs
      have hlt : i < xs.length := by rw [← h.len]; exact (List.getElem?_eq_some_iff.1 hy).1
      have hx' := List.getElem?_eq_getElem hlt
      exact .d _ _ (h.get hy hx' _ _ _ (hr i (.d xs[i]) z (by simp [hx']) hz).dd)

theorem SpecC.of_wp (hR : ObjOk R) {f : Nat} {fn : Func} {c : Code} (hf : C.P.funcs[f]? = some fn) (hc : fn.body = some c) (hn : (fn.name == "runtime.NumGoroutine") = false) {ds : List D} (hle : Nat.ble ds.length fn.ntmps = true) {v : AV}
    (h : WpC R C.P fn.ntmps c (enterE 0 (ds.map .d)) pureSt (endQ C fn (fun r => r.1 = none ∧ ∃ v', toDT r.2.1 = some v' ∧ AnsL v v'))) : SpecC R C.P f ds v := by
  intro args S ⟨ds', ha, hds⟩
  obtain ⟨d1, d2⟩ := toDs_spec ha
  have hlen : ds.length = args.length := by rw [hds.len, d1]
  have hs := SpecF.of_wp hf hc hn (args := ds.map .d) (by simpa using Nat.le_of_ble_eq_true hle) h
  refine ⟨hs.1, fun cx w us hS hl hr => ?_⟩
  refine (hs.2 cx w us (pure_rel hS) (by simp [hl, hlen]) (fun i x u hx hu => ?_)).mono (fun e w' he => ?_)
  · simp only [List.getElem?_map, Option.map_eq_some_iff] at hx
    obtain ⟨y, hy, rfl⟩ := hx
    have hlt : i < args.length := by rw [← hlen]; exact (List.getElem?_eq_some_iff.1 hy).1
    have ha := List.getElem?_eq_getElem hlt
    have hz := List.getElem?_eq_getElem (show i < ds'.length by rw [← hds.len, hlen]; exact hlt)
    exact .d _ u (hds.get hy hz _ _ _ (toD_sound (d2 i _ _ ha hz) (hr i _ u ha hu)))
  · obtain ⟨⟨p, v1, S1⟩, ⟨hp, v', hv, hcn⟩, cx1, k1, k2, k3⟩ := he
    simp only at hp hv
    subst hp
    obtain ⟨m1, m2, m3⟩ := pure_back hR hS k2
    obtain ⟨u, rfl, k3⟩ := k3
    exact ⟨_, rfl, cx, m1, m2, u, rfl, hcn.rel (toDT_sound hv k3 (cx' := cx) (S' := S) (w' := w') m3)⟩

/-! ### Words that say less, in rows -/
inductive LessL : List AV → List AV → Prop
  | nil : LessL [] []
  | cons {y x : AV} {ys xs : List AV} (h : Less y x) (k : LessL ys xs) : LessL (y :: ys) (x :: xs)
theorem LessL.len {ys xs : List AV} (h : LessL ys xs) : ys.length = xs.length := by
  induction h with
  | nil => rfl
  | cons _ _ ih => simp [ih]
theorem LessL.get {ys xs : List AV} (h : LessL ys xs) : ∀ {i : Nat} {y x : AV}, ys[i]? = some y → xs[i]? = some x → Less y x := by
  induction h with
  | nil => intro i y x h; simp at h
  | cons h k ih =>
    intro i y x h1 h2
    cases i with
    | zero => simp at h1 h2; subst h1; subst h2; exact h
    | succ i => exact ih (by simpa using h1) (by simpa using h2)
theorem LessL.refl : ∀ (l : List AV), LessL l l
  | [] => .nil
  | x :: l => .cons (.refl x) (.refl l)
theorem LessL.trans {a b c : List AV} (h : LessL a b) (k : LessL b c) : LessL a c := by
  induction h generalizing c with
  | nil => exact k
  | cons h _ ih => cases k with
    | cons k1 k2 => exact .cons (h.trans k1) (ih k2)

/-! ### A memory of one's own: variables, and slices that grow -/
inductive Asn where
  | box (id : Nat) (cs : List AV)
  | grow (v : AV) (xs : List D)
  | obj (id k : Nat) (x : D)
  | map (id : Nat) (m : MapD)
  | row (sz : Nat) (v : AV) (xs : List D)
  | abs (ids : List Nat) (p : St → Prop)

/-- Cells are no structs. -/
def flatC : List D → Bool
  | [] => true
  | x :: l => !x.isAgg && flatC l

def Asn.fp : Asn → List Nat
  | .box id _ => [id]
  | .grow (.tsl _ tok) _ => [tok]
  | .grow _ _ => []
  | .obj id _ _ => [id]
  | .map id _ => [id]
  | .row _ (.msl id _ _ _ _ _) _ => [id]
  | .row _ _ _ => []
  | .abs ids _ => ids

def Asn.ok (S : St) : Asn → Prop
  | .box id cs => S.H.get id = some (.cells 0 cs)
  | .grow v xs => match v with
    | .d .nils => xs = []
    | .d (.sl ys true) => ys = xs
    | .tsl ys tok => ys = xs ∧ xs ≠ [] ∧ S.T.get tok = some xs.length ∧ S.H.get tok = none
    | _ => False
  | .obj id k x => S.H.get id = some (.obj k x)
  | .map id m => S.H.get id = some (.map m)
  | .row sz v xs => match v with
    | .d .nils => xs = []
    | .d (.sl [] true) => xs = []
    | .msl id g off len lim sz' => off = 0 ∧ len = xs.length ∧ lim = xs.length ∧ sz' = sz ∧ 0 < sz ∧ (∀ x ∈ xs, x.cells.length = sz ∧ flatC x.cells = true) ∧ ∃ cs, LessL ((xs.map D.cells).flatten.map .d) cs ∧ S.H.get id = some (.cells g cs)
    | _ => False
  | .abs ids p => (∀ id ∈ ids, ∃ b, S.H.get id = some b) ∧ ∀ S', (∀ id ∈ ids, S'.H.get id = S.H.get id) → p S'

/-- What one has of one's own, beside a memory that stays as it is. -/
structure Has (B S : St) (l : List Asn) : Prop where
  wf : S.Wf
  ok : ∀ a ∈ l, a.ok S
  nd : (l.map Asn.fp).flatten.Nodup
  bwf : B.Wf
  keeps : Keeps B S
  out : ∀ a ∈ l, ∀ id ∈ a.fp, B.H.get id = none ∧ B.T.get id = none

theorem live_T {S : St} {id n : Nat} (h : S.T.get id = some n) : live S id := by
  unfold live cur
  cases hH : S.H.get id with
  | none => simp only [h]; simp
  | some b => cases b <;> simp
theorem live_H {S : St} {id : Nat} {b : Blk} (h : S.H.get id = some b) : live S id := by
  unfold live cur; rw [h]; cases b <;> simp

theorem Asn.lt {S : St} (wf : S.Wf) {a : Asn} (h : a.ok S) : ∀ id ∈ a.fp, id < S.nx := by
  intro id hid
  cases a with
  | box i cs => simp only [Asn.fp, List.mem_singleton] at hid; subst hid; exact wf _ (live_H h)
  | grow v xs =>
    cases v <;> simp only [Asn.fp, List.not_mem_nil, List.mem_singleton] at hid
    subst hid
    exact wf _ (live_T h.2.2.1)
  | obj i k x => simp only [Asn.fp, List.mem_singleton] at hid; subst hid; exact wf _ (live_H h)
  | map i m => simp only [Asn.fp, List.mem_singleton] at hid; subst hid; exact wf _ (live_H h)
  | row sz v xs =>
    cases v <;> simp only [Asn.fp, List.not_mem_nil, List.mem_singleton] at hid
    subst hid
    obtain ⟨_, _, hc⟩ := h.2.2.2.2.2.2; exact wf _ (live_H hc)
  | abs ids p =>
    obtain ⟨b, hb⟩ := h.1 id hid
    exact wf _ (live_H hb)

theorem Asn.keep {S S' : St} {a : Asn} (h : a.ok S) (hH : ∀ id ∈ a.fp, S'.H.get id = S.H.get id) (hT : ∀ id ∈ a.fp, S'.T.get id = S.T.get id) : a.ok S' := by
  cases a with
  | box i cs => simp only [Asn.ok] at h ⊢; rw [hH i (by simp [Asn.fp])]; exact h
  | grow v xs =>
    cases v with
    | tsl ys tok => simp only [Asn.ok] at h ⊢; rw [hH tok (by simp [Asn.fp]), hT tok (by simp [Asn.fp])]; exact h
    | d x => cases x with
      | sl ys t => cases t <;> exact h
      | _ => exact h
    | _ => exact h
  | obj i k x => simp only [Asn.ok] at h ⊢; rw [hH i (by simp [Asn.fp])]; exact h
  | map i m => simp only [Asn.ok] at h ⊢; rw [hH i (by simp [Asn.fp])]; exact h
  | row sz v xs =>
    cases v with
    | msl id g off len lim sz => simp only [Asn.ok] at h ⊢; rw [hH id (by simp [Asn.fp])]; exact h
    | d x => cases x with
      | sl ys t => cases ys <;> cases t <;> exact h
      | _ => exact h
    | _ => exact h
  | abs ids p => exact ⟨fun id hid => by rw [hH id hid]; exact h.1 id hid, fun S2 h2 => h.2 S2 (fun id hid => (h2 id hid).trans (hH id hid))⟩

theorem Asn.absK {S S' : St} {ids : List Nat} {p : St → Prop} (h : (Asn.abs ids p).ok S) (k : ∀ id b, id ∈ ids → S.H.get id = some b → S'.H.get id = some b) : (Asn.abs ids p).ok S' :=
  have e : ∀ id ∈ ids, S'.H.get id = S.H.get id := fun id hid => by obtain ⟨b, hb⟩ := h.1 id hid; rw [k id b hid hb, hb]
  ⟨fun id hid => by rw [e id hid]; exact h.1 id hid, fun S2 h2 => h.2 S2 (fun id hid => (h2 id hid).trans (e id hid))⟩

theorem Has.start {S : St} (wf : S.Wf) : Has S S [] := ⟨wf, (fun a h => by cases h), by simp, wf, .refl S, (fun a h => by cases h)⟩
theorem Has.pure : Has pureSt pureSt [] := .start fun id h => absurd rfl h

theorem sub_flat {α β : Type} (f : α → List β) {l' l : List α} (s : l'.Sublist l) : (l'.map f).flatten.Sublist (l.map f).flatten := by
  induction s with
  | slnil => exact List.Sublist.refl _
  | cons a _ ih => exact ih.trans (by simp)
  | cons_cons a _ ih => simpa using ih.append_left (f a)

/-- A new block. -/
theorem Has.new {B S : St} {l : List Asn} (h : Has B S l) (b : Blk) {a : Asn} (hf : a.fp = [S.nx]) (ha : a.ok (newBlk S b)) : Has B (newBlk S b) (a :: l) := by
  have hlt : ∀ x ∈ l, ∀ id ∈ x.fp, id < S.nx := fun x hx => Asn.lt h.wf (h.ok x hx)
  refine ⟨fun id hl => ?_, fun x hx => ?_, ?_, h.bwf, ⟨Nat.le_trans h.keeps.nx (Nat.le_succ _), fun id b' hb' => ?_, fun id n hn => h.keeps.T id n hn⟩, fun x hx id hid => ?_⟩
  rotate_left 3
  · have := h.bwf.H hb'
    have := h.keeps.nx
    simp only [newBlk, AL.get_set]
    rw [if_neg (by omega)]; exact h.keeps.H id b' hb'
  · rcases List.mem_cons.1 hx with rfl | hx
    · rw [hf, List.mem_singleton] at hid
      subst hid
      have hnl : ¬ live B S.nx := fun hl => by have := h.bwf _ hl; have := h.keeps.nx; omega
      refine ⟨?_, ?_⟩
      · cases hB : B.H.get S.nx with
        | none => rfl
        | some b' => exact (hnl (live_H hB)).elim
      · cases hB : B.T.get S.nx with
        | none => rfl
        | some b' => exact (hnl (live_T hB)).elim
    · exact h.out x hx id hid
  · show id < S.nx + 1
    unfold live cur at hl
    simp only [newBlk, AL.get_set] at hl
    by_cases hi : S.nx = id
    · omega
    · rw [if_neg hi] at hl
      have := h.wf id hl
      omega
  · rcases List.mem_cons.1 hx with rfl | hx
    · exact ha
    · refine Asn.keep (h.ok x hx) (fun id hid => ?_) (fun id hid => rfl)
      have := hlt x hx id hid
      simp only [newBlk, AL.get_set]
      rw [if_neg (by omega)]
  · rw [List.map_cons, List.flatten_cons, hf, List.singleton_append, List.nodup_cons]
    refine ⟨fun hm => ?_, h.nd⟩
    obtain ⟨fps, hfps, hid⟩ := List.mem_flatten.1 hm
    obtain ⟨x, hx, rfl⟩ := List.mem_map.1 hfps
    have := hlt x hx _ hid
    omega

theorem Has.box {B S : St} {l : List Asn} (h : Has B S l) (cs : List AV) : Has B (newBlk S (.cells 0 cs)) (.box S.nx cs :: l) :=
  h.new _ rfl (by simp [Asn.ok, newBlk, AL.get_set])

theorem Has.no_has {B S : St} {l : List Asn} (h : Has B S l) : AL.has S.H S.nx = false := by
  cases hb : AL.has S.H S.nx with
  | false => rfl
  | true =>
    obtain ⟨b, hb⟩ := AL.get_of_has hb
    have := h.wf _ (live_H hb)
    omega

theorem fp_out {l : List Asn} (hn : (l.map Asn.fp).flatten.Nodup) {i j : Nat} {a b : Asn} (ha : l[i]? = some a) (hb : l[j]? = some b) (hij : i ≠ j) {id : Nat} (h1 : id ∈ a.fp) (h2 : id ∈ b.fp) : False := by
  induction l generalizing i j with
  | nil => simp at ha
  | cons x l ih =>
    rw [List.map_cons, List.flatten_cons, List.nodup_append] at hn
    obtain ⟨n1, n2, n3⟩ := hn
    cases i with
    | zero =>
      cases j with
      | zero => exact hij rfl
      | succ j =>
        simp only [List.getElem?_cons_zero, Option.some.injEq] at ha
        subst ha
        simp only [List.getElem?_cons_succ] at hb
        exact n3 id h1 id (List.mem_flatten.2 ⟨_, List.mem_map.2 ⟨b, List.mem_of_getElem? hb, rfl⟩, h2⟩) rfl
    | succ i =>
      simp only [List.getElem?_cons_succ] at ha
      cases j with
      | zero =>
        simp only [List.getElem?_cons_zero, Option.some.injEq] at hb
        subst hb
        exact n3 id h2 id (List.mem_flatten.2 ⟨_, List.mem_map.2 ⟨a, List.mem_of_getElem? ha, rfl⟩, h1⟩) rfl
      | succ j =>
        simp only [List.getElem?_cons_succ] at hb
        exact ih n2 ha hb (by omega)

/-- One of them is other than it was. -/
theorem Has.set {B S S' : St} {l : List Asn} (h : Has B S l) {i : Nat} {a a' : Asn} (hi : l[i]? = some a) (hf : a'.fp = a.fp) (ha : a'.ok S') (wf : S'.Wf)
    (hH : ∀ id, id ∉ a.fp → S'.H.get id = S.H.get id) (hT : ∀ id, id ∉ a.fp → S'.T.get id = S.T.get id) (hnx : S'.nx = S.nx) : Has B S' (l.set i a') := by
  have hil : i < l.length := (List.getElem?_eq_some_iff.1 hi).1
  have hma := List.mem_of_getElem? hi
  refine ⟨wf, fun x hx => ?_, ?_, h.bwf, ⟨by rw [hnx]; exact h.keeps.nx, fun id b hb => ?_, fun id n hn => ?_⟩, fun x hx id hid => ?_⟩
  rotate_left 2
  · rw [hH id (fun q => by rw [(h.out a hma id q).1] at hb; cases hb)]; exact h.keeps.H id b hb
  · rw [hT id (fun q => by rw [(h.out a hma id q).2] at hn; cases hn)]; exact h.keeps.T id n hn
  · rcases List.mem_or_eq_of_mem_set hx with hx | rfl
    · exact h.out x hx id hid
    · rw [hf] at hid; exact h.out a hma id hid
  · obtain ⟨j, hj, rfl⟩ := List.getElem_of_mem hx
    rw [List.length_set] at hj
    by_cases hij : i = j
    · subst hij; rw [List.getElem_set_self]; exact ha
    · rw [List.getElem_set_ne hij]
      have hlj : l[j]? = some l[j] := List.getElem?_eq_getElem hj
      refine Asn.keep (h.ok l[j] (List.getElem_mem hj)) (fun id hid => hH id (fun q => fp_out h.nd hi hlj hij q hid)) (fun id hid => hT id (fun q => fp_out h.nd hi hlj hij q hid))
  · have : (l.set i a').map Asn.fp = l.map Asn.fp := by
      apply List.ext_getElem?
      intro j
      rw [List.getElem?_map, List.getElem?_map, List.getElem?_set]
      by_cases hij : i = j
      · subst hij; have := (List.getElem?_eq_some_iff.1 hi).2; simp [hil, hf, this]
      · simp [hij]
    rw [this]; exact h.nd

theorem Has.at {B S : St} {l : List Asn} (h : Has B S l) {i : Nat} {a : Asn} (hi : l[i]? = some a) : a.ok S := h.ok a (List.mem_of_getElem? hi)

/-- A block is written. -/
theorem Has.write {B S : St} {l : List Asn} (h : Has B S l) {i id : Nat} {cs cs' : List AV} (hi : l[i]? = some (.box id cs)) : Has B { S with H := S.H.set id (.cells 0 cs') } (l.set i (.box id cs')) := by
  have hid := h.at hi
  refine h.set hi rfl (by simp [Asn.ok, AL.get_set]) (fun j hl => ?_) (fun j hj => ?_) (fun j hj => rfl) rfl
  · refine h.wf j ?_
    unfold live cur at hl ⊢
    simp only [AL.get_set] at hl
    by_cases hij : id = j
    · subst hij; rw [show S.H.get id = _ from hid]; simp
    · rw [if_neg hij] at hl; exact hl
  · simp only [Asn.fp, List.mem_singleton] at hj
    simp only [AL.get_set]
    rw [if_neg (fun q => hj q.symm)]

end
end Go.Ev


namespace Go.Ev
noncomputable section
set_option linter.unusedVariables false
set_option linter.unusedSimpArgs false
variable {R : ObjR} {C : Cfg} {P : Program} {nt : Nat}

/-! ### A memory of which less is said -/
def BlkLess : Option Blk → Option Blk → Prop
  | some (.cells g' cs'), some (.cells g cs) => g' = g ∧ LessL cs' cs
  | a, b => a = b
theorem BlkLess.refl (a : Option Blk) : BlkLess a a := by
  cases a with
  | none => rfl
  | some b => cases b with
    | cells g cs => exact ⟨rfl, .refl _⟩
    | map m => rfl
    | obj k x => rfl
structure WeakS (S2 S : St) : Prop where
  nx : S2.nx = S.nx
  T : ∀ id, S2.T.get id = S.T.get id
  H : ∀ id, BlkLess (S2.H.get id) (S.H.get id)

theorem BlkLess.cases {a b : Option Blk} (h : BlkLess a b) : a = b ∨ ∃ g cs' cs, a = some (.cells g cs') ∧ b = some (.cells g cs) ∧ LessL cs' cs := by
  unfold BlkLess at h
  split at h
  · obtain ⟨rfl, h⟩ := h; exact .inr ⟨_, _, _, rfl, rfl, h⟩
  · exact .inl h
theorem WeakS.cur {S2 S : St} (k : WeakS S2 S) (id : Nat) : cur S2 id = cur S id := by
  unfold Ev.cur
  rcases (k.H id).cases with h | ⟨g, cs', cs, h1, h2, _⟩
  · rw [h, k.T]
  · rw [h1, h2]
theorem WeakS.isIt {S2 S : St} (k : WeakS S2 S) {id g : Nat} : isIt S2 id g ↔ isIt S id g := by
  unfold Ev.isIt
  rcases (k.H id).cases with h | ⟨g, cs', cs, h1, h2, _⟩
  · rw [h]
  · rw [h1, h2]; simp
theorem WeakS.live {S2 S : St} (k : WeakS S2 S) {id : Nat} : live S2 id ↔ live S id := by unfold Ev.live; rw [k.cur]
theorem WeakS.trans {S3 S2 S : St} (a : WeakS S3 S2) (b : WeakS S2 S) : WeakS S3 S where
  nx := a.nx.trans b.nx
  T := fun id => (a.T id).trans (b.T id)
  H := fun id => by
    rcases (a.H id).cases with h | ⟨g, cs', cs, h1, h2, h3⟩
    · rw [h]; exact b.H id
    · rcases (b.H id).cases with h' | ⟨g', ds', ds, k1, k2, k3⟩
      · rw [← h', h1, h2]; exact ⟨rfl, h3⟩
      · rw [h2] at k1; cases k1
        rw [h1, k2]; exact ⟨rfl, h3.trans k3⟩
theorem WeakS.refl (S : St) : WeakS S S := ⟨rfl, fun _ => rfl, fun _ => BlkLess.refl _⟩

theorem ARel.weakS {cx : Cx} {S2 S : St} {w : World} (k : WeakS S2 S) {x : AV} {v : Value} (h : ARel cx S w x v) : ARel cx S2 w x v := by
  have nm : ∀ {id g : Nat}, Names S id g → Names S2 id g := fun h => ⟨by rw [k.nx]; exact h.1, fun g' hg => h.2 g' (by rw [← k.cur]; exact hg)⟩
  have cr : ∀ {id : Nat} {o : Option Nat}, cur S2 id = o → cur S id = o := fun h => by rw [← k.cur]; exact h
  induction h with
  | d x v hd => exact .d x v hd
  | tsl xs tok b off cap hn hd hp => exact .tsl xs tok b off cap (nm hn) hd (fun hc => hp (cr hc))
  | ptr id g off b hn hp => exact .ptr id g off b (nm hn) (fun hc => hp (cr hc))
  | msl id g off len lim sz b cap hn hl hcap h63 hp => exact .msl id g off len lim sz b cap (nm hn) hl hcap h63 (fun hc => hp (cr hc))
  | any v => exact .any v
  | eptr x off b o vs hd hc => exact .eptr x off b o vs hd hc
  | map id b hn hp => exact .map id b (nm hn) (fun hc => hp (cr hc))
  | asl id g off len sz b hn h63 hp => exact .asl id g off len sz b (nm hn) h63 (fun hc => hp (cr hc))
  | fn f cs vs hl hr ih => exact .fn f cs vs hl ih
  | agg xs vs hl ho hr ih => exact .agg xs vs hl ho ih
  | tup xs vs hl hr ih => exact .tup xs vs hl ih
  | it0 k' g since st b seen hn hp =>
    exact .it0 k' g since st b seen (nm hn) (fun hk => by
      obtain ⟨p1, p2, p3, p4⟩ := hp (k.isIt.1 hk)
      exact ⟨p1, p2, fun i hi hf => p3 i (by rw [← k.cur]; exact hi) hf, p4⟩)
  | it k' g id since st b m seen hn hni hm hp =>
    exact .it k' g id since st b m seen (nm hn) (nm hni) (fun hc => hm (cr hc)) (fun hk => by
      obtain ⟨p1, p2, p3, p4⟩ := hp (k.isIt.1 hk)
      exact ⟨p1, p2, fun i hi hf => p3 i (by rw [← k.cur]; exact hi) hf, p4⟩)

theorem SRel.weakS {cx : Cx} {S2 S : St} {w : World} (h : SRel R cx S w) (k : WeakS S2 S) : SRel R cx S2 w where
  wf := fun id hl => by rw [k.nx]; exact h.wf id (k.live.1 hl)
  dis := fun id b hb => by
    rw [k.T]
    rcases (k.H id).cases with q | ⟨g, cs', cs, h1, h2, _⟩
    · rw [q] at hb; exact h.dis id b hb
    · exact h.dis id _ h2
  cells := fun id g cs hb => by
    rcases (k.H id).cases with q | ⟨g', cs', ds, h1, h2, h3⟩
    · rw [q] at hb
      obtain ⟨c1, c2, arr, el, c3, c4, c5⟩ := h.cells id g cs hb
      refine ⟨c1, c2, arr, el, c3, c4, fun i x hx => ?_⟩
      obtain ⟨v, v1, v2, v3⟩ := c5 i x hx
      exact ⟨v, v1, v2.weakS k, v3⟩
    · rw [h1] at hb; cases hb
      obtain ⟨c1, c2, arr, el, c3, c4, c5⟩ := h.cells id _ ds h2
      refine ⟨c1, c2, arr, el, c3, by rw [h3.len]; exact c4, fun i x hx => ?_⟩
      have hlt : i < ds.length := by rw [← h3.len]; exact (List.getElem?_eq_some_iff.1 hx).1
      have hy := List.getElem?_eq_getElem hlt
      obtain ⟨v, v1, v2, v3⟩ := c5 i _ hy
      exact ⟨v, v1, (h3.get hx hy _ _ _ _ v2).weakS k, v3⟩
  maps := fun id es hb => by
    rcases (k.H id).cases with q | ⟨g', cs', ds, h1, h2, h3⟩
    · rw [q] at hb
      obtain ⟨c1, c2, ms, clk, c3, c4, c5⟩ := h.maps id es hb
      refine ⟨c1, c2, ms, clk, c3, c4, fun i p m hp hm => ?_⟩
      obtain ⟨v1, v2⟩ := c5 i p m hp hm
      exact ⟨v1, v2.weakS k⟩
    · rw [h1] at hb; cases hb
  objs := fun id kd x hb => by
    rcases (k.H id).cases with q | ⟨g', cs', ds, h1, h2, h3⟩
    · rw [q] at hb; exact h.objs id kd x hb
    · rw [h1] at hb; cases hb
  toks := fun id en hb => h.toks id en (by rw [← k.T]; exact hb)
  sep := fun id id' b a1 a2 => h.sep id id' b (k.live.1 a1) (k.live.1 a2)
  lt := h.lt
  stat := h.stat

theorem Ext.weakS {cx cx' : Cx} {S2 S S' : St} {w w' : World} (k : WeakS S2 S) (e : Ext cx S2 w cx' S' w') : Ext cx S w cx' S' w' where
  size := e.size
  os := e.os
  tape := e.tape
  output := e.output
  nx := by rw [← k.nx]; exact e.nx
  prot := e.prot
  other := fun b hb hn => e.other b hb (fun id hl hf => by
    obtain ⟨q1, g, q2, q3⟩ := hn id (k.live.1 hl) hf
    exact ⟨by rw [k.nx]; exact q1, g, k.isIt.2 q2, q3⟩)
  own := fun id b hl hf => by
    obtain ⟨q1, q2⟩ := e.own id b hl hf
    rw [k.nx] at q1 q2
    exact ⟨fun h => ⟨k.live.1 (q1 h).1, (q1 h).2⟩, q2⟩
  back := fun id g hid hi => by
    obtain ⟨g', h⟩ := e.back id g (by rw [k.nx]; exact hid) hi
    exact ⟨g', k.isIt.1 h⟩
  keep := fun id g b hid h0 hi hf => e.keep id g b (by rw [k.nx]; exact hid) (k.isIt.2 h0) hi hf
  curs := fun id g hid hg => by
    obtain ⟨g0, h0, h1⟩ := e.curs id g (by rw [k.nx]; exact hid) hg
    exact ⟨g0, by rw [← k.cur]; exact h0, h1⟩

theorem Fin.weakS {cx : Cx} {S2 S : St} {w : World} {a : Act} {K : Exit → Act → World → Prop} (k : WeakS S2 S) {r : Res} (h : Fin R cx S w nt a K r) : Fin R cx S2 w nt a K r := by
  obtain ⟨x, e, S'⟩ := r
  cases x with
  | normal => exact fun cx' a' w' q1 q2 q3 q4 => h cx' a' w' q1 (q2.weakS k) q3 q4
  | exit id => exact fun cx' a' w' q1 q2 q3 q4 => h cx' a' w' q1 (q2.weakS k) q3 q4
  | ret => exact fun cx' a' w' q1 q2 q3 q4 => h cx' a' w' q1 (q2.weakS k) q3 q4
  | panic v => exact fun cx' a' w' u q1 q2 q3 q4 => h cx' a' w' u q1 (q2.weakS k) q3 q4

theorem ERel.weakS {cx : Cx} {S2 S : St} {w : World} {e : Env} {a : Act} (k : WeakS S2 S) (h : ERel cx S w nt e a) : ERel cx S2 w nt e a :=
  ⟨h.size, fun t x hx => let ⟨v, v1, v2⟩ := h.rel t x hx; ⟨v, v1, v2.weakS k⟩⟩
theorem WpC.weakS {c : Code} {e : Env} {S2 S : St} {Q : Res → Prop} (k : WeakS S2 S) (h : WpC R P nt c e S2 Q) : WpC R P nt c e S Q :=
  fun cx w a K h1 h2 h3 => h cx w a K (h1.weakS k) (h2.weakS k) (fun r q => (h3 r q).weakS k)
theorem WpL.weakS {c : Code} {e : Env} {S2 S : St} {Q : Res → Prop} (k : WeakS S2 S) (h : WpL R P nt c e S2 Q) : WpL R P nt c e S Q :=
  fun cx w a K h1 h2 h3 => h cx w a K (h1.weakS k) (h2.weakS k) (fun r q => (h3 r q).weakS k)

theorem WpC.ghost {c : Code} {e e2 : Env} {S S2 : St} {Q : Res → Prop} (g : Ghost R nt e S e2 S2) (h : WpC R P nt c e2 S2 Q) : WpC R P nt c e S Q := fun cx w a K h1 h2 h3 => by
  obtain ⟨c2, q1, q2, q3⟩ := g cx w a h1 h2
  exact h c2 w a K q1 q3 (fun r q => (h3 r q).trans q2 rfl)
theorem WpL.ghost {c : Code} {e e2 : Env} {S S2 : St} {Q : Res → Prop} (g : Ghost R nt e S e2 S2) (h : WpL R P nt c e2 S2 Q) : WpL R P nt c e S Q := fun cx w a K h1 h2 h3 => by
  obtain ⟨c2, q1, q2, q3⟩ := g cx w a h1 h2
  exact h c2 w a K q1 q3 (fun r q => (h3 r q).trans q2 rfl)

end
end Go.Ev


namespace Go.Ev
noncomputable section
set_option linter.unusedVariables false
set_option linter.unusedSimpArgs false
variable {B : St}

section steps
variable {R : ObjR} {C : Cfg} {nt : Nat} {ops : Array Oper} {rest : List Oper} {e : Env} {S S' : St} {Q : Stp → Prop} {l l' : List Asn} {t ty : Nat} {p : String} {af : Array Edge} {g : Option (Nat × Bool)}

theorem wpO.one {o : Oper} (hw : wantedE ops e o = some true) (h : wpOp1 R C nt o.dst o.op e S (fun r => match r with
    | .go e' S' => wpO R C nt ops rest e' S' Q
    | .stop v S' => Q (.stop v S'))) : wpO R C nt ops (o :: rest) e S Q := ⟨e, S, .refl e S, .inr (.inl ⟨e, .refl e, hw, h⟩)⟩

theorem wpO.val {op : Op} {v : AV} (hw : wantedE ops e { dst := some t, op := op, type := ty, pos := p, after := af, guard := g } = some true) (ho : oper C (evalO e) S op = some (.val v S')) (ht : Nat.blt t nt = true) (k : wpO R C nt ops rest ((t, v) :: e) S' Q) :
    wpO R C nt ops ({ dst := some t, op := op, type := ty, pos := p, after := af, guard := g } :: rest) e S Q :=
  wpO.one hw (.inl ⟨v, S', _, ho, by simp only [Env.put, ht, cond_true], k⟩)
theorem wpO.val0 {op : Op} {v : AV} (hw : wantedE ops e { dst := none, op := op, type := ty, pos := p, after := af, guard := g } = some true) (ho : oper C (evalO e) S op = some (.val v S')) (k : wpO R C nt ops rest e S' Q) :
    wpO R C nt ops ({ dst := none, op := op, type := ty, pos := p, after := af, guard := g } :: rest) e S Q :=
  wpO.one hw (.inl ⟨v, S', _, ho, rfl, k⟩)
theorem wpO.skip {op : Op} (hw : wantedE ops e { dst := none, op := op, type := ty, pos := p, after := af, guard := g } = some true) (ho : oper C (evalO e) S op = some (.skip S')) (k : wpO R C nt ops rest e S' Q) :
    wpO R C nt ops ({ dst := none, op := op, type := ty, pos := p, after := af, guard := g } :: rest) e S Q :=
  wpO.one hw (.inr (.inl ⟨S', ho, rfl, k⟩))
/-- A call that comes to just one thing. -/
theorem wpO.ret {op : Op} {f : Nat} {args : List AV} {v : AV} (hw : wantedE ops e { dst := some t, op := op, type := ty, pos := p, after := af, guard := g } = some true) (ho : oper C (evalO e) S op = some (.call f args)) (hs : SpecF R C.P f args S (fun r => r = (none, v, S'))) (ht : Nat.blt t nt = true) (k : wpO R C nt ops rest ((t, v) :: e) S' Q) :
    wpO R C nt ops ({ dst := some t, op := op, type := ty, pos := p, after := af, guard := g } :: rest) e S Q :=
  wpO.one hw (.inr (.inr (.inl ⟨f, args, ho, hs.mono fun r hr => by subst hr; exact ⟨_, by simp only [Env.put, ht, cond_true], k⟩⟩)))
/-- An operation that isn't asked for. -/
theorem wpO.no {op : Op} (hw : wantedE ops e { dst := some t, op := op, type := ty, pos := p, after := af, guard := g } = some false) (ht : Nat.blt t nt = true)
    (k : wpO R C nt ops rest ((t, .tup []) :: e) S Q) :
    wpO R C nt ops ({ dst := some t, op := op, type := ty, pos := p, after := af, guard := g } :: rest) e S Q :=
  ⟨e, S, .refl e S, .inr (.inr ⟨e, _, .refl e, hw, (by simp only [Env.put, ht, cond_true]), k⟩)⟩
/-- Some operations, then the others. -/
theorem wpO.app : ∀ (l1 : List Oper) {l2 : List Oper} {e : Env} {S : St} {Q : Stp → Prop}, wpO R C nt ops l1 e S (fun r => match r with | .go e' S' => wpO R C nt ops l2 e' S' Q | .stop v S' => Q (.stop v S')) → wpO R C nt ops (l1 ++ l2) e S Q
  | [], l2, e, S, Q, ⟨e2, hs, h⟩ => wpO.weak hs h
  | o :: l1, l2, e, S, Q, ⟨e2, S2, hs, h⟩ => ⟨e2, S2, hs, h.mono fun r hr => by
      cases r with
      | go e' S' => exact wpO.app l1 hr
      | stop v S' => exact hr⟩
theorem wpO.mono : ∀ {L : List Oper} {e : Env} {S : St} {Q Q' : Stp → Prop}, wpO R C nt ops L e S Q → (∀ r, Q r → Q' r) → wpO R C nt ops L e S Q'
  | [], e, S, Q, Q', ⟨e2, hs, h⟩, hq => ⟨e2, hs, hq _ h⟩
  | o :: l1, e, S, Q, Q', ⟨e2, S2, hs, h⟩, hq => ⟨e2, S2, hs, h.mono fun r hr => by
      cases r with
      | go e' S' => exact wpO.mono hr hq
      | stop v S' => exact hq _ hr⟩
end steps

/-! ### Operations, one by one -/
section opers
variable {C : Cfg} {e : Env} {ρ : Operand → Option AV} {S : St} {l l' : List Asn} {v : AV} {x y : Operand} {t : Nat}

theorem oper_assign (h : ρ x = some v) : oper C ρ S (.assign x) = some (.val v S) := by simp only [oper, h, Option.map_some]
theorem oper_move (h : ρ x = some v) : oper C ρ S (.move x) = some (.val v S) := by simp only [oper, h, Option.map_some]
theorem oper_pick {c : Operand} {b : Bool} (hc : ρ c = some (.d (.bool b))) (h : ρ (if b then x else y) = some v) : oper C ρ S (.pick c x y) = some (.val v S) := by simp only [oper, hc, h, Option.map_some]
theorem oper_box (H : Has B S l) {cs : List AV} (h : ρ x = some v) (hp : v.plain = true) (hc : v.cells = cs) : oper C ρ S (.box t x) = some (.val (.ptr S.nx 0 0) (newBlk S (.cells 0 cs))) := by
  subst hc
  simp only [oper, h, hp, if_true, H.no_has, cond_false]; rfl
theorem oper_alloc (H : Has B S l) {z : D} {cs : List AV} (ho : C.objT t = none) (hz : zeroOf C.P t = some z) (hc : (AV.d z).cells = cs) : oper C ρ S (.alloc t) = some (.val (.ptr S.nx 0 0) (newBlk S (.cells 0 cs))) := by
  subst hc
  simp only [oper, ho, hz, Option.map_some, H.no_has, cond_false]; rfl
theorem oper_fieldAddr {s fld id g off fo ft o' : Nat} (h : ρ x = some (.ptr id g off)) (hf : fieldOf C.P s fld = some (fo, ft)) (hz : Nat.beq (szOf C.P ft) 0 = false) (ho : off + fo = o') : oper C ρ S (.fieldAddr s x fld) = some (.val (.ptr id g o') S) := by
  subst ho
  simp only [oper, h, hf]
  rw [if_neg (fun q => by rw [q] at hz; simp at hz)]
theorem part_one {P : Program} {cs : List AV} {off : Nat} (ha : aggO P t = some false) (h : cs[off]? = some v) : part P t cs off = some v := by simp only [part, ha, h]
theorem part_agg {P : Program} {cs : List AV} {off n : Nat} (ha : aggO P t = some true) (hz : szOf P t = n) (hl : Nat.ble (off + n) cs.length = true) : part P t cs off = some (mkAgg ((cs.drop off).take n)) := by
  subst hz
  simp only [part, ha]; rw [if_pos (Nat.le_of_ble_eq_true hl)]
theorem partD_one {P : Program} {cs : List D} {off : Nat} {d : D} (ha : aggO P t = some false) (h : cs[off]? = some d) : partD P t cs off = some d := by simp only [partD, ha, h]
theorem oper_load (H : Has B S l) {i id off : Nat} {cs : List AV} (h : ρ x = some (.ptr id 0 off)) (hi : l[i]? = some (.box id cs)) (hp : part C.P t cs off = some v) : oper C ρ S (.load t x) = some (.val v S) := by
  have hb : S.H.get id = some (.cells 0 cs) := H.at hi
  simp only [oper, h, opLoad, St.look, hb, Nat.beq_refl, cond_true, hp, Option.map_some]
theorem oper_loadE {off : Nat} {d r : D} (h : ρ x = some (.eptr d off)) (hp : partD C.P t d.cells off = some r) : oper C ρ S (.load t x) = some (.val (.d r) S) := by
  simp only [oper, h, opLoad, hp, Option.map_some]
theorem oper_store (H : Has B S l) {i id off n : Nat} {cs cv : List AV} (ha : ρ x = some (.ptr id 0 off)) (hy : ρ y = some v) (hcv : v.cells = cv) (hn : cv.length = n) (hz : szOf C.P t = n) (hp : v.plain = true) (hag : (aggO C.P t).isSome = true) (hi : l[i]? = some (.box id cs)) (hb : Nat.ble (off + n) cs.length = true) :
    oper C ρ S (.store t x y) = some (.skip { S with H := S.H.set id (.cells 0 (setAt cs off cv)) }) := by
  subst hcv
  subst hn
  have hg : S.H.get id = some (.cells 0 cs) := H.at hi
  simp only [oper, ha, hy, opStore, hg]
  rw [if_pos ⟨hz.symm, hp, hag⟩, if_pos trivial, if_pos (Nat.le_of_ble_eq_true hb)]
  rfl
theorem oper_len {tt : Nat} {n : Nat} (h : ρ x = some v) (ht : lenTy C tt v = true) (hn : lenAV v S = some n) : oper C ρ S (.call { callee := .builtin .len, args := #[x], argTypes := #[tt] }) = some (.val (.d (.int .i64 (n : Int))) S) := by
  have : mapO ρ [x] = some [v] := by simp only [mapO, h, Option.map_some]
  simp only [oper, this, builtinAV, List.getElem?_toArray, List.getElem?_cons_zero, ht, if_true, hn, Option.map_some]
theorem oper_bin {op : BinOp} {ty : Nat} {a b : AV} {r : D} (hx : ρ x = some a) (hy : ρ y = some b) (hb : binD C.P t op a b = some r) : oper C ρ S (.binOp op t x y ty) = some (.val (.d r) S) := by
  simp only [oper, hx, hy, hb, Option.map_some]
theorem oper_not {b : Bool} (hx : ρ x = some (.d (.bool b))) : oper C ρ S (.unOp .not t x) = some (.val (.d (.bool (!b))) S) := by simp only [oper, hx]
theorem oper_conv_int {src dst : Nat} {k k' : IntKind} {n : Int} (hx : ρ x = some (.d (.int k n))) (hs : (C.P.underlying src).isSome = true) (hk : intT C.P dst = some k') : oper C ρ S (.convert src dst x) = some (.val (.d (.int k' (k'.wrap n))) S) := by
  simp only [oper, hx, convAV, hs, if_true, hk, Option.map_some]
theorem oper_callF {f : Nat} {as : Array Operand} {ts : Array Nat} {args : List AV} (ha : mapO ρ as.toList = some args) (hf : ρ (.func f) = some (.fn f [])) : oper C ρ S (.call { callee := .value (.func f), args := as, argTypes := ts }) = some (.call f args) := by
  simp only [oper, hf, ha, List.append_nil]
theorem oper_idx {n : Int} {k : IntKind} {r : AV} (hx : ρ x = some v) (hy : ρ y = some (.d (.int k n))) (hi : opIndexAddr C t v (.d (.int k n)) = some r) : oper C ρ S (.indexAddr t x y) = some (.val r S) := by simp only [oper, hx, hy, hi, Option.map_some]
/-! #### numbers, texts -/
theorem binD_add {P : Program} {k : IntKind} {a b : Int} : binD P t .add (.d (.int k a)) (.d (.int k b)) = some (.int k (k.wrap (a + b))) := by simp only [binD, if_true, intBin]
theorem binD_sub {P : Program} {k : IntKind} {a b : Int} : binD P t .sub (.d (.int k a)) (.d (.int k b)) = some (.int k (k.wrap (a - b))) := by simp only [binD, if_true, intBin]
theorem binD_rem {P : Program} {k : IntKind} {a b : Int} (h : b ≠ 0) : binD P t .rem (.d (.int k a)) (.d (.int k b)) = some (.int k (a.tmod b)) := by simp only [binD, if_true, intBin, if_neg h]
theorem binD_eql {P : Program} {k : IntKind} {a b : Int} : binD P t .eql (.d (.int k a)) (.d (.int k b)) = some (.bool (a == b)) := by simp only [binD, if_true, intBin]
theorem binD_neq {P : Program} {k : IntKind} {a b : Int} : binD P t .neq (.d (.int k a)) (.d (.int k b)) = some (.bool (a != b)) := by simp only [binD, if_true, intBin]
theorem binD_lss {P : Program} {k : IntKind} {a b : Int} : binD P t .lss (.d (.int k a)) (.d (.int k b)) = some (.bool (decide (a < b))) := by simp only [binD, if_true, intBin]
theorem binD_gtr {P : Program} {k : IntKind} {a b : Int} : binD P t .gtr (.d (.int k a)) (.d (.int k b)) = some (.bool (decide (b < a))) := by simp only [binD, if_true, intBin]
theorem binD_seql {P : Program} {a b : List UInt8} : binD P t .eql (.d (.str a)) (.d (.str b)) = some (.bool (a == b)) := by simp only [binD, strBin]
theorem lenTy_sl {xs : List D} {b : Bool} (h : (elemSl C.P t).isSome = true) : lenTy C t (.d (.sl xs b)) = true := by
  unfold elemSl at h
  unfold lenTy
  split at h
  · rename_i hu; simp only [hu]
  · cases h
/-- The element at a place. -/
def idx {α : Type} (l : List α) (n : Int) : Option α := if 0 ≤ n then l[n.toNat]? else none
theorem idx_some {α : Type} {l : List α} {n : Int} {x : α} (h : idx l n = some x) : 0 ≤ n ∧ l[n.toNat]? = some x := by
  unfold idx at h
  split at h
  · rename_i hn; exact ⟨hn, h⟩
  · cases h
theorem idxAddr {α : Type} {enc : α → D} {l : List α} {n : Int} {k : IntKind} {z : α} {el : Nat} {b : Bool} (h : idx l n = some z) (he : elemSl C.P t = some el) (ha : (aggO C.P el).isSome = true) (hz : (enc z).cells.length = szOf C.P el) :
    opIndexAddr C t (.d (.sl (l.map enc) b)) (.d (.int k n)) = some (.eptr (enc z) 0) := by
  obtain ⟨h0, h1⟩ := idx_some h
  have : (l.map enc)[n.toNat]? = some (enc z) := by rw [List.getElem?_map, h1]; rfl
  simp only [opIndexAddr, he, h0, ha, decide_true, Bool.and_self, if_true, this, hz]
end opers

/-! ### What is handed in -/
theorem ArgsC.nil : ArgsC [] [] := ⟨[], rfl, .nil⟩
theorem ArgsC.consW {x : AV} {d d' : D} {xs : List AV} {ds : List D} (h : toD x = some d') (hc : DLess d d') (k : ArgsC xs ds) : ArgsC (x :: xs) (d :: ds) := by
  obtain ⟨ds', k1, k2⟩ := k
  exact ⟨d' :: ds', by simp only [toDs, h, k1, Option.map_some], .cons hc k2⟩
theorem ArgsC.cons {x : AV} {d d' : D} {xs : List AV} {ds : List D} (h : toD x = some d') (hc : d'.cn = d) (k : ArgsC xs ds) : ArgsC (x :: xs) (d :: ds) := .consW h (.of_cn hc) k
theorem ArgsC.eq {d : D} {xs : List AV} {ds : List D} (k : ArgsC xs ds) : ArgsC (.d d :: xs) (d :: ds) := .consW rfl (.refl d) k

/-! ### From slots to what the function computes -/
theorem if_t {α : Type} {c : Bool} {x y : α} {r : α} (hb : c = true) (h : (if c = true then x else y) = r) : x = r := by rw [if_pos hb] at h; exact h
theorem if_f {α : Type} {c : Bool} {x y : α} {r : α} (hb : c = false) (h : (if c = true then x else y) = r) : y = r := by rw [if_neg (by rw [hb]; simp)] at h; exact h
theorem bind_some {α β : Type} {o : Option α} {f : α → Option β} {r : β} (h : o.bind f = some r) : ∃ z, o = some z ∧ f z = some r := Option.bind_eq_some_iff.1 h

section code
variable {R : ObjR} {P : Program} {nt : Nat}
/-- Where one is, told with fewer words. -/
def At (R : ObjR) (nt : Nat) (B : St) {α : Type} (sem : α → Prop) (env : α → Env) (shape : α → List Asn) (e : Env) (S : St) : Prop := ∃ a e1 S1 S2, Ghost R nt e S e1 S1 ∧ WeakS S2 S1 ∧ WeakE (env a) e1 ∧ Has B S2 (shape a) ∧ sem a
/-- A place where several ways come together. -/
theorem WpC.join {α : Type} (sem : α → Prop) (env : α → Env) (shape : α → List Asn) {x y : Code} {e : Env} {S : St} {Q : Res → Prop}
    (hj : ∀ a S', Has B S' (shape a) → sem a → WpC R P nt y (env a) S' Q)
    (hx : WpC R P nt x e S (thenQ (At R nt B sem env shape) Q)) : WpC R P nt (.seq x y) e S Q :=
  WpC.seq (hx.mono fun r hr => by
    obtain ⟨q, e', S'⟩ := r
    cases q with
    | normal => obtain ⟨a, e1, S1, S2, hg, h0, h1, h2, h3⟩ := hr; exact (((hj a S2 h2 h3).weak h1).weakS h0).ghost hg
    | exit id => exact hr
    | ret => exact hr
    | panic v => exact hr)

/-- A loop: what is asked at its head. -/
theorem WpL.ind {α : Type} (sem : Nat → α → Prop) (env : α → Env) (shape : α → List Asn) {c : Code} {Q : Res → Prop} (h0 : ∀ a, ¬ sem 0 a)
    (step : ∀ k a S, Has B S (shape a) → sem (k + 1) a → WpC R P nt c (env a) S (thenQ (At R nt B (sem k) env shape) Q)) :
    ∀ k a S, Has B S (shape a) → sem k a → WpL R P nt c (env a) S Q
  | 0, a, S, _, h => (h0 a h).elim
  | k + 1, a, S, hH, h => WpL.round ((step k a S hH h).mono fun r hr => by
      obtain ⟨q, e', S'⟩ := r
      cases q with
      | normal => obtain ⟨a', e1, S1, S2, hg, h4, h1, h2, h3⟩ := hr; exact (((WpL.ind sem env shape h0 step k a' S2 h2 h3).weak h1).weakS h4).ghost hg
      | exit id => exact hr
      | ret => exact hr
      | panic v => exact hr)
theorem WpL.start {α : Type} (sem : Nat → α → Prop) (env : α → Env) (shape : α → List Asn) {c : Code} {e : Env} {S : St} {Q : Res → Prop} (h0 : ∀ a, ¬ sem 0 a)
    (step : ∀ k a S, Has B S (shape a) → sem (k + 1) a → WpC R P nt c (env a) S (thenQ (At R nt B (sem k) env shape) Q))
    (k : Nat) (hat : At R nt B (sem k) env shape e S) : WpC R P nt (.loop c) e S Q := by
  obtain ⟨a, e1, S1, S2, hg, h4, hs, hH, h⟩ := hat
  exact WpC.loop ((((WpL.ind sem env shape h0 step k a S2 hH h).weak hs).weakS h4).ghost hg)
end code

/-- Some of what one has, in an order of one's own. -/
theorem Has.sel {S : St} {l : List Asn} (h : Has B S l) (is : List Nat) (hn : is.Nodup) {l' : List Asn} (hl : is.map (fun i => l[i]?) = l'.map some) : Has B S l' := by
  have hget : ∀ (j : Nat) (a : Asn), l'[j]? = some a → ∃ i, is[j]? = some i ∧ l[i]? = some a := fun j a hj => by
    have : (is.map (fun i => l[i]?))[j]? = some (some a) := by rw [hl, List.getElem?_map, hj]; rfl
    rw [List.getElem?_map, Option.map_eq_some_iff] at this
    exact this
  refine ⟨h.wf, fun a ha => ?_, ?_, h.bwf, h.keeps, fun a ha => ?_⟩
  rotate_left 2
  · obtain ⟨j, hj, rfl⟩ := List.getElem_of_mem ha
    obtain ⟨i, _, hi⟩ := hget j _ (List.getElem?_eq_getElem hj)
    exact h.out _ (List.mem_of_getElem? hi)
  · obtain ⟨j, hj, rfl⟩ := List.getElem_of_mem ha
    obtain ⟨i, _, hi⟩ := hget j _ (List.getElem?_eq_getElem hj)
    exact h.at hi
  · -- no two places share a number
    clear hl
    induction l' generalizing is with
    | nil => simp
    | cons a l' ih =>
      cases is with
      | nil => obtain ⟨i, hi, _⟩ := hget 0 a rfl; simp at hi
      | cons i is =>
        have hn' := List.nodup_cons.1 hn
        have hi : l[i]? = some a := by
          obtain ⟨i', h1, h2⟩ := hget 0 a rfl
          simp at h1; subst h1; exact h2
        rw [List.map_cons, List.flatten_cons, List.nodup_append]
        have own : a.fp.Nodup := by
          cases a with
          | grow v xs => cases v <;> simp [Asn.fp]
          | row sz v xs => cases v <;> simp [Asn.fp]
          | abs ids p => exact h.nd.sublist (List.sublist_flatten_of_mem (List.mem_map.2 ⟨_, List.mem_of_getElem? hi, rfl⟩))
          | _ => simp [Asn.fp]
        refine ⟨own, ih is hn'.2 (fun j b hj => ?_), fun x hx y hy hxy => ?_⟩
        · obtain ⟨i', h1, h2⟩ := hget (j + 1) b (by simpa using hj)
          exact ⟨i', by simpa using h1, h2⟩
        · subst hxy
          obtain ⟨fps, hfps, hid⟩ := List.mem_flatten.1 hy
          obtain ⟨b, hb, rfl⟩ := List.mem_map.1 hfps
          obtain ⟨j, hj, rfl⟩ := List.getElem_of_mem hb
          obtain ⟨i', h1, h2⟩ := hget (j + 1) l'[j] (by simp)
          refine fp_out h.nd hi h2 (fun q => ?_) hx hid
          subst q
          exact hn'.1 (List.mem_of_getElem? (by simpa using h1))

end
end Go.Ev


namespace Go.Ev
noncomputable section
set_option linter.unusedVariables false
set_option linter.unusedSimpArgs false
variable {B : St}

theorem CRel.cns {w : World} {fr : Nat → Nat → Prop} {xs : List D} {t : Bool} {vs : List Value} (h : CRel w fr (.sl xs t) vs) : CRel w fr (.sl (D.cns xs) t) vs := by
  cases h with
  | sl0 a cap _ h => exact .sl0 a cap t h
  | sl _ _ b off cap sz vs hne hcap ht hsz hlen hx hc =>
    have hl : xs.length = (D.cns xs).length := by rw [D.cns_map]; simp
    rw [hl]
    refine .sl (D.cns xs) t b off cap sz vs (by rw [D.cns_map]; simpa using hne) (by rw [← hl]; exact hcap) (fun h => by rw [← hl]; exact ht h) (fun i x hi => ?_) (fun i hi => hlen i (by rw [hl]; exact hi)) (fun i x hi => ?_) (fun i j v hi hv => hc i j v (by rw [hl]; exact hi) hv)
    · rw [D.cns_map, List.getElem?_map, Option.map_eq_some_iff] at hi
      obtain ⟨y, hy, rfl⟩ := hi
      rw [D.cn_cells, List.length_map]; exact hsz i y hy
    · rw [D.cns_map, List.getElem?_map, Option.map_eq_some_iff] at hi
      obtain ⟨y, hy, rfl⟩ := hi
      exact (hx i y hy).cn
theorem Less.cns (xs : List D) (t : Bool) : Less (.d (.sl (D.cns xs) t)) (.d (.sl xs t)) := fun cx S w v h => .d _ _ ⟨h.dd.1.cns, h.dd.2⟩

theorem DLess.untight (xs : List D) (t : Bool) : DLess (.sl xs false) (.sl xs t) := fun w fr v h => by
  refine ⟨?_, h.2⟩
  have h1 := h.1
  generalize hcs : v.cells.toList = cs at h1 ⊢
  cases h1 with
  | sl0 a cap _ _ => exact .sl0 a cap false (fun h => by cases h)
  | sl _ _ b off cap sz vs hne hcap ht hsz hlen hx hc => exact .sl xs false b off cap sz vs hne hcap (fun h => by cases h) hsz hlen hx hc
theorem DLess.nils (b : Bool) : DLess (.sl [] b) .nils := fun w fr v h => by
  refine ⟨?_, h.2⟩
  have h1 := h.1
  generalize hcs : v.cells.toList = cs at h1 ⊢
  cases h1
  exact .sl0 none 0 b (fun _ => rfl)
theorem grow_D {S : St} {v : AV} {xs : List D} (h : (Asn.grow v xs).ok S) : ∃ d, toD v = some d ∧ DLess (.sl xs false) d := by
  simp only [Asn.ok] at h
  split at h
  · subst h; exact ⟨_, rfl, .nils false⟩
  · subst h; exact ⟨_, rfl, .untight _ _⟩
  · obtain ⟨rfl, _, _⟩ := h; exact ⟨_, rfl, .refl _⟩
  · exact h.elim
theorem lenTy_grow {C : Cfg} {S : St} {l : List Asn} (H : Has B S l) {i t : Nat} {v : AV} {xs : List D} (hi : l[i]? = some (.grow v xs)) (h : (elemSl C.P t).isSome = true) : lenTy C t v = true := by
  have hg := H.at hi
  unfold elemSl at h
  unfold lenTy
  split at h
  · rename_i hu
    simp only [hu]
    simp only [Asn.ok] at hg
    split at hg
    · rfl
    · rfl
    · rfl
    · exact hg.elim
  · cases h
theorem lenAV_grow {S S' : St} {l : List Asn} (H : Has B S l) {i : Nat} {v : AV} {xs : List D} (hi : l[i]? = some (.grow v xs)) : lenAV v S' = some xs.length := by
  have hg := H.at hi
  simp only [Asn.ok] at hg
  split at hg
  · subst hg; rfl
  · subst hg; rfl
  · obtain ⟨rfl, _⟩ := hg; rfl
  · exact hg.elim
theorem idxAddr_grow {C : Cfg} {α : Type} {enc : α → D} {S : St} {l : List Asn} (H : Has B S l) {i t : Nat} {v : AV} {xs : List α} (hi : l[i]? = some (.grow v (xs.map enc))) {n : Int} {k : IntKind} {z : α} {el : Nat} (h : idx xs n = some z) (he : elemSl C.P t = some el) (ha : (aggO C.P el).isSome = true) (hz : (enc z).cells.length = szOf C.P el) :
    opIndexAddr C t v (.d (.int k n)) = some (.eptr (enc z) 0) := by
  obtain ⟨h0, h1⟩ := idx_some h
  have hm : (xs.map enc)[n.toNat]? = some (enc z) := by rw [List.getElem?_map, h1]; rfl
  have hg := H.at hi
  simp only [Asn.ok] at hg
  split at hg
  · rw [hg] at hm; simp at hm
  · rw [hg]
    simp only [opIndexAddr, he, h0, ha, decide_true, Bool.and_self, if_true, hm, hz]
  · rw [hg.1]
    simp only [opIndexAddr, he, h0, ha, decide_true, Bool.and_self, if_true, hm, hz]
  · exact hg.elim

theorem Has.pureG {S : St} {l : List Asn} (H : Has B S l) {a : Asn} (hf : a.fp = []) (ha : a.ok S) : Has B S (a :: l) where
  wf := H.wf
  ok := fun x hx => by
    rcases List.mem_cons.1 hx with rfl | hx
    · exact ha
    · exact H.ok x hx
  nd := by rw [List.map_cons, List.flatten_cons, hf, List.nil_append]; exact H.nd
  bwf := H.bwf
  keeps := H.keeps
  out := fun x hx id hid => by
    rcases List.mem_cons.1 hx with rfl | hx
    · rw [hf] at hid; cases hid
    · exact H.out x hx id hid
theorem Has.nilG {S : St} {l : List Asn} (H : Has B S l) : Has B S (.grow (.d .nils) [] :: l) := H.pureG rfl rfl
theorem Has.tightG {S : St} {l : List Asn} (H : Has B S l) (xs : List D) : Has B S (.grow (.d (.sl xs true)) xs :: l) := H.pureG rfl rfl

/-- One of them becomes another one, in a memory with one number more. -/
theorem Has.setNew {S S' : St} {l : List Asn} (h : Has B S l) {i : Nat} {a a' : Asn} (hi : l[i]? = some a) (hf0 : a.fp = []) (hf : a'.fp = [S.nx]) (ha : a'.ok S') (wf : S'.Wf)
    (hH : ∀ id, id < S.nx → S'.H.get id = S.H.get id) (hT : ∀ id, id < S.nx → S'.T.get id = S.T.get id) (hnx : S.nx ≤ S'.nx) : Has B S' (l.set i a') := by
  have hil : i < l.length := (List.getElem?_eq_some_iff.1 hi).1
  have hlt : ∀ x ∈ l, ∀ id ∈ x.fp, id < S.nx := fun x hx => Asn.lt h.wf (h.ok x hx)
  have hBlt : ∀ id b, B.H.get id = some b → id < S.nx := fun id b hb => Nat.lt_of_lt_of_le (h.bwf.H hb) h.keeps.nx
  have hBltT : ∀ id n, B.T.get id = some n → id < S.nx := fun id b hb => Nat.lt_of_lt_of_le (h.bwf _ (live_T hb)) h.keeps.nx
  refine ⟨wf, fun x hx => ?_, ?_, h.bwf, ⟨Nat.le_trans h.keeps.nx hnx, fun id b hb => ?_, fun id n hn => ?_⟩, fun x hx id hid => ?_⟩
  rotate_left 2
  · rw [hH id (hBlt id b hb)]; exact h.keeps.H id b hb
  · rw [hT id (hBltT id n hn)]; exact h.keeps.T id n hn
  · rcases List.mem_or_eq_of_mem_set hx with hx | rfl
    · exact h.out x hx id hid
    · rw [hf, List.mem_singleton] at hid
      subst hid
      refine ⟨?_, ?_⟩
      · cases hB : B.H.get S.nx with
        | none => rfl
        | some b' => have := hBlt _ _ hB; omega
      · cases hB : B.T.get S.nx with
        | none => rfl
        | some b' => have := hBltT _ _ hB; omega
  · obtain ⟨j, hj, rfl⟩ := List.getElem_of_mem hx
    rw [List.length_set] at hj
    by_cases hij : i = j
    · subst hij; rw [List.getElem_set_self]; exact ha
    · rw [List.getElem_set_ne hij]
      exact Asn.keep (h.ok l[j] (List.getElem_mem hj)) (fun id hid => hH id (hlt _ (List.getElem_mem hj) id hid)) (fun id hid => hT id (hlt _ (List.getElem_mem hj) id hid))
  · -- the new number is nobody's
    have hperm : ∀ (l : List Asn) (i : Nat), l[i]? = some a → (∀ x ∈ l, ∀ id ∈ x.fp, id < S.nx) → (l.map Asn.fp).flatten.Nodup → ((l.set i a').map Asn.fp).flatten.Nodup ∧ ∀ id ∈ ((l.set i a').map Asn.fp).flatten, id = S.nx ∨ id ∈ (l.map Asn.fp).flatten := by
      intro l
      induction l with
      | nil => intro i hi; simp at hi
      | cons x l ih =>
        intro i hi hlt hnd
        rw [List.map_cons, List.flatten_cons, List.nodup_append] at hnd
        obtain ⟨n1, n2, n3⟩ := hnd
        cases i with
        | zero =>
          simp only [List.getElem?_cons_zero, Option.some.injEq] at hi
          subst hi
          simp only [List.set_cons_zero, List.map_cons, List.flatten_cons, hf, hf0, List.nil_append, List.singleton_append, List.nodup_cons]
          refine ⟨⟨fun hm => ?_, n2⟩, fun id hid => ?_⟩
          · obtain ⟨fps, hfps, hid⟩ := List.mem_flatten.1 hm
            obtain ⟨y, hy, rfl⟩ := List.mem_map.1 hfps
            have := hlt y (List.mem_cons_of_mem _ hy) _ hid
            omega
          · rcases List.mem_cons.1 hid with rfl | hid
            · exact .inl rfl
            · exact .inr hid
        | succ i =>
          simp only [List.getElem?_cons_succ] at hi
          obtain ⟨m1, m2⟩ := ih i hi (fun y hy => hlt y (List.mem_cons_of_mem _ hy)) n2
          simp only [List.set_cons_succ, List.map_cons, List.flatten_cons]
          refine ⟨List.nodup_append.2 ⟨n1, m1, fun u hu v hv huv => ?_⟩, fun id hid => ?_⟩
          · subst huv
            rcases m2 u hv with rfl | hv
            · have := hlt x List.mem_cons_self _ hu; omega
            · exact n3 u hu u hv rfl
          · rcases List.mem_append.1 hid with hid | hid
            · exact .inr (List.mem_append.2 (.inl hid))
            · rcases m2 id hid with rfl | hid
              · exact .inl rfl
              · exact .inr (List.mem_append.2 (.inr hid))
    exact (hperm l i hi hlt h.nd).1

/-- What an append comes to, where it goes. -/
def app {α : Type} (nb : Nat) (l ys : List α) : Option (List α) := if (l.length + ys.length) * nb ≤ bound then some (l ++ ys) else none
theorem app_some {α : Type} {nb : Nat} {l ys r : List α} (h : app nb l ys = some r) : (l.length + ys.length) * nb ≤ bound ∧ r = l ++ ys := by
  unfold app at h
  split at h
  · rename_i hb; exact ⟨hb, (Option.some.inj h).symm⟩
  · cases h
theorem sizes_map {α : Type} {enc : α → D} {n : Nat} (h : ∀ z, (enc z).cells.length = n) : ∀ (l : List α), sizes n (l.map enc) = true
  | [] => rfl
  | x :: l => by simp only [List.map_cons, sizes, h, Nat.beq_refl, sizes_map h l, Bool.and_self]

theorem grow_append {C : Cfg} {S : St} {l : List Asn} (H : Has B S l) {i : Nat} {v : AV} {xs ys : List D} (hi : l[i]? = some (.grow v xs)) {el nb : Nat} (hb : (xs.length + ys.length) * nb ≤ bound) (hnb : bytesOf C.P el = nb) (h0 : (Nat.blt 0 nb && Nat.ble nb 65536) = true)
    (hx : sizes (szOf C.P el) xs = true) (hy : sizes (szOf C.P el) ys = true) (hz : zeroOk C el = true) : ∃ v' S', opAppend C el S v ys = some (v', S') ∧ Has B S' (l.set i (.grow v' (xs ++ ys))) := by
  subst hnb
  simp only [Bool.and_eq_true] at h0
  have h1 := Nat.le_of_ble_eq_true h0.1
  have h2 := Nat.le_of_ble_eq_true h0.2
  have h1 : 0 < bytesOf C.P el := h1
  have hinfo : (C.P.info? el).isSome = true := by
    unfold zeroOk at hz
    cases hq : C.P.info? el with
    | none => rw [hq] at hz; cases hz
    | some x => rfl
  have hil : i < l.length := (List.getElem?_eq_some_iff.1 hi).1
  have hg := H.at hi
  by_cases hne : ys.length = 0
  · have : ys = [] := List.eq_nil_of_length_eq_zero hne
    subst this
    refine ⟨v, S, ?_, ?_⟩
    · simp only [Asn.ok] at hg
      split at hg <;> simp_all [opAppend]
    · rw [List.append_nil]
      have : l.set i (.grow v xs) = l := by
        apply List.ext_getElem?
        intro j
        rw [List.getElem?_set]
        by_cases hij : i = j
        · subst hij; simp [hil]; exact (List.getElem?_eq_some_iff.1 hi).2.symm
        · simp [hij]
      rw [this]; exact H
  · have fresh : S.H.get S.nx = none := H.wf.fresh (Nat.le_refl _)
    have new : ∀ zs : List D, zs ≠ [] → (Asn.grow v xs).fp = [] → Has B { S with T := S.T.set S.nx zs.length, nx := S.nx + 1 } (l.set i (.grow (.tsl zs S.nx) zs)) := fun zs hzs hfp => by
      refine H.setNew hi hfp rfl ⟨rfl, hzs, by simp [AL.get_set], fresh⟩ (fun id hl => ?_) (fun id hid => rfl) (fun id hid => by simp only [AL.get_set]; rw [if_neg (by omega)]) (Nat.le_succ _)
      show id < S.nx + 1
      unfold live cur at hl
      cases hH : S.H.get id with
      | some b => have := H.wf.H hH; omega
      | none =>
        simp only [hH, AL.get_set] at hl
        by_cases hq : S.nx = id
        · omega
        · rw [if_neg hq] at hl
          cases hT : S.T.get id with
          | none => exact absurd hT hl
          | some n => have := H.wf id (live_T hT); omega
    simp only [Asn.ok] at hg
    split at hg
    · subst hg
      refine ⟨_, _, ?_, new ys (fun q => hne (by rw [q]; rfl)) rfl⟩
      simp only [List.length_nil, Nat.zero_add] at hb
      simp only [opAppend, if_neg hne, if_pos (show ys.length * bytesOf C.P el ≤ bound ∧ 0 < bytesOf C.P el ∧ bytesOf C.P el ≤ 65536 ∧ sizes (szOf C.P el) ys = true ∧ zeroOk C el = true from ⟨hb, h1, h2, hy, hz⟩)]
    · rename_i zs
      subst hg
      refine ⟨_, _, ?_, new (zs ++ ys) (fun q => hne (by simp at q; simp [q.2])) rfl⟩
      simp only [opAppend, if_neg hne, if_pos (show (zs.length + ys.length) * bytesOf C.P el ≤ bound ∧ 0 < bytesOf C.P el ∧ bytesOf C.P el ≤ 65536 ∧ sizes (szOf C.P el) ys = true ∧ sizes (szOf C.P el) zs = true ∧ zeroOk C el = true from ⟨hb, h1, h2, hy, hx, hz⟩), if_true, List.length_append]
    · rename_i zs tok
      obtain ⟨rfl, hne2, hT, hHt⟩ := hg
      have hpos : 0 < zs.length := List.length_pos_iff.2 hne2
      refine ⟨.tsl (zs ++ ys) tok, { S with T := S.T.set tok (zs.length + ys.length) }, ?_, ?_⟩
      · simp only [opAppend, if_neg hne, if_pos (show (zs.length + ys.length) * bytesOf C.P el ≤ bound ∧ 0 < bytesOf C.P el ∧ bytesOf C.P el ≤ 65536 ∧ sizes (szOf C.P el) ys = true ∧ sizes (szOf C.P el) zs = true ∧ zeroOk C el = true from ⟨hb, h1, h2, hy, hx, hz⟩), hT]
        rw [if_pos ⟨trivial, hpos⟩]
      · refine H.set hi rfl ⟨rfl, by simp [hne2], by simp [AL.get_set], hHt⟩ (fun id hl => ?_) (fun id hid => rfl) (fun id hid => ?_) rfl
        · show id < S.nx
          refine H.wf id ?_
          unfold live cur at hl ⊢
          cases hH : S.H.get id with
          | some b => cases b <;> simp
          | none =>
            simp only [hH, AL.get_set] at hl ⊢
            by_cases hq : tok = id
            · subst hq; rw [hT]; simp
            · rw [if_neg hq] at hl; exact hl
        · simp only [Asn.fp, List.mem_singleton] at hid
          simp only [AL.get_set]; rw [if_neg (fun q => hid q.symm)]
    · exact hg.elim

theorem oper_append {C : Cfg} {ρ : Operand → Option AV} {x y : Operand} {S : St} {l : List Asn} (H : Has B S l) {i t u : Nat} {v vy : AV} {xs ys : List D} (hx : ρ x = some v) (hy : ρ y = some vy) (hi : l[i]? = some (.grow v xs)) (hd : dataOf vy = some ys) (hnr : C.rowT t = false) (hu : okSrc C u = true) {el nb : Nat} (he : elemSl C.P t = some el)
    (hb : (xs.length + ys.length) * nb ≤ bound) (hnb : bytesOf C.P el = nb) (h0 : (Nat.blt 0 nb && Nat.ble nb 65536) = true) (hsx : sizes (szOf C.P el) xs = true) (hsy : sizes (szOf C.P el) ys = true) (hz : zeroOk C el = true) :
    ∃ v' S', oper C ρ S (.call { callee := .builtin .append, args := #[x, y], argTypes := #[t, u] }) = some (.val v' S') ∧ Has B S' (l.set i (.grow v' (xs ++ ys))) := by
  obtain ⟨v', S', h1, h2⟩ := grow_append (C := C) H hi hb hnb h0 hsx hsy hz
  refine ⟨v', S', ?_, h2⟩
  have hm : mapO ρ [x, y] = some [v, vy] := by simp only [mapO, hx, hy, Option.map_some]
  have hg := H.at hi
  simp only [oper, hm, builtinAV, List.getElem?_toArray, List.getElem?_cons_zero, List.getElem?_cons_succ, hu, if_true, he]
  simp only [Asn.ok] at hg
  split at hg
  · simp only [hnr, cond_false, hd, h1, Option.map_some]
  · simp only [hnr, cond_false, hd, h1, Option.map_some]
  · simp only [hnr, cond_false, hd, h1, Option.map_some]
  · exact hg.elim

/-! ### Parts of slices and texts -/
def cut {α : Type} (l : List α) (lo hi : Int) : Option (List α) := if 0 ≤ lo ∧ lo ≤ hi ∧ hi ≤ l.length then some ((l.take hi.toNat).drop lo.toNat) else none
theorem cut_some {α : Type} {l r : List α} {lo hi : Int} (h : cut l lo hi = some r) : (0 ≤ lo ∧ lo ≤ hi ∧ hi ≤ l.length) ∧ r = (l.take hi.toNat).drop lo.toNat := by
  unfold cut at h
  split at h
  · rename_i hb; exact ⟨hb, (Option.some.inj h).symm⟩
  · cases h

end
end Go.Ev


namespace Go.Ev
noncomputable section
set_option linter.unusedVariables false
set_option linter.unusedSimpArgs false
variable {B : St}

section steps
variable {R : ObjR} {C : Cfg} {nt : Nat} {ops : Array Oper} {rest : List Oper} {e : Env} {S S' : St} {Q : Stp → Prop} {l l' : List Asn} {t ty : Nat} {p : String} {af : Array Edge} {g : Option (Nat × Bool)} {v : AV} {x y : Operand}

theorem wpO.box {bt : Nat} {cs : List AV} (H : Has B S l) (hw : wantedE ops e { dst := some t, op := .box bt x, type := ty, pos := p, after := af, guard := g } = some true) (hx : evalO e x = some v) (hp : v.plain = true) (hc : v.cells = cs) (ht : Nat.blt t nt = true)
    (k : ∀ b S', Has B S' (.box b cs :: l) → wpO R C nt ops rest ((t, .ptr b 0 0) :: e) S' Q) :
    wpO R C nt ops ({ dst := some t, op := .box bt x, type := ty, pos := p, after := af, guard := g } :: rest) e S Q :=
  wpO.val hw (oper_box H hx hp hc) ht (k _ _ (H.box cs))
theorem wpO.alloc {bt : Nat} {z : D} {cs : List AV} (H : Has B S l) (hw : wantedE ops e { dst := some t, op := .alloc bt, type := ty, pos := p, after := af, guard := g } = some true) (ho : C.objT bt = none) (hz : zeroOf C.P bt = some z) (hc : (AV.d z).cells = cs) (ht : Nat.blt t nt = true)
    (k : ∀ b S', Has B S' (.box b cs :: l) → wpO R C nt ops rest ((t, .ptr b 0 0) :: e) S' Q) :
    wpO R C nt ops ({ dst := some t, op := .alloc bt, type := ty, pos := p, after := af, guard := g } :: rest) e S Q :=
  wpO.val hw (oper_alloc H ho hz hc) ht (k _ _ (H.box cs))
theorem wpO.store {bt i id off n : Nat} {cs cv cs' : List AV} (H : Has B S l) (hw : wantedE ops e { dst := none, op := .store bt x y, type := ty, pos := p, after := af, guard := g } = some true) (ha : evalO e x = some (.ptr id 0 off)) (hy : evalO e y = some v) (hi : l[i]? = some (.box id cs)) (hcv : v.cells = cv) (hn : cv.length = n) (hz : szOf C.P bt = n) (hp : v.plain = true) (hag : (aggO C.P bt).isSome = true) (hb : Nat.ble (off + n) cs.length = true)
    (hs : setAt cs off cv = cs') (hl : l.set i (.box id cs') = l') (k : ∀ S', Has B S' l' → wpO R C nt ops rest e S' Q) :
    wpO R C nt ops ({ dst := none, op := .store bt x y, type := ty, pos := p, after := af, guard := g } :: rest) e S Q := by
  subst hs
  subst hl
  exact wpO.skip hw (oper_store H ha hy hcv hn hz hp hag hi hb) (k _ (H.write hi))
theorem wpO.append {t1 u i : Nat} {vy : AV} {xs ys zs : List D} {el nb : Nat} (H : Has B S l) (hw : wantedE ops e { dst := some t, op := .call { callee := .builtin .append, args := #[x, y], argTypes := #[t1, u] }, type := ty, pos := p, after := af, guard := g } = some true)
    (hx : evalO e x = some v) (hy : evalO e y = some vy) (hi : l[i]? = some (.grow v xs)) (hd : dataOf vy = some ys) (hnr : C.rowT t1 = false) (hu : okSrc C u = true) (he : elemSl C.P t1 = some el) (hb : (xs.length + ys.length) * nb ≤ bound) (hnb : bytesOf C.P el = nb) (h0 : (Nat.blt 0 nb && Nat.ble nb 65536) = true)
    (hsx : sizes (szOf C.P el) xs = true) (hsy : sizes (szOf C.P el) ys = true) (hz : zeroOk C el = true) (ht : Nat.blt t nt = true) (hzs : xs ++ ys = zs)
    (k : ∀ v' S', Has B S' (l.set i (.grow v' zs)) → wpO R C nt ops rest ((t, v') :: e) S' Q) :
    wpO R C nt ops ({ dst := some t, op := .call { callee := .builtin .append, args := #[x, y], argTypes := #[t1, u] }, type := ty, pos := p, after := af, guard := g } :: rest) e S Q := by
  subst hzs
  obtain ⟨v', S', h1, h2⟩ := oper_append (ρ := evalO e) H hx hy hi hd hnr hu he hb hnb h0 hsx hsy hz
  exact wpO.val hw h1 ht (k v' S' h2)

theorem WeakE.put {t : Nat} {x y : AV} {e2 e : Env} (h : WeakE e2 e) (hl : Less y x) : WeakE ((t, y) :: e2) ((t, x) :: e) := fun u z hz => by
  rw [AL.get_cons] at hz ⊢
  by_cases hu : t = u
  · rw [if_pos hu] at hz ⊢; cases hz; exact ⟨x, rfl, hl⟩
  · rw [if_neg hu] at hz ⊢; exact h u z hz
def noKey (t : Nat) : Env → Bool
  | [] => true
  | (k, _) :: l => !(Nat.beq k t) && noKey t l
theorem noKey_get {t : Nat} : ∀ {e : Env}, noKey t e = true → AL.get e t = none
  | [], _ => rfl
  | (k, v) :: l, h => by
    simp only [noKey, Bool.and_eq_true, Bool.not_eq_true'] at h
    rw [AL.get_cons, if_neg (fun q => by subst q; rw [Nat.beq_refl] at h; cases h.1)]
    exact noKey_get h.2
theorem WeakE.push {t : Nat} {x : AV} {e2 e : Env} (hk : noKey t e2 = true) (h : WeakE e2 e) : WeakE e2 ((t, x) :: e) := fun u z hz => by
  have : t ≠ u := fun q => by subst q; rw [noKey_get hk] at hz; cases hz
  rw [AL.get_cons, if_neg this]
  exact h u z hz
/-- A value that several operations come to, whichever way. -/
theorem wpO.groupV {L : List Oper} (n t : Nat) (v : AV) (h : wpO R C nt ops (L.take n) e S (fun r => ∃ e', r = .go e' S ∧ WeakE ((t, v) :: e) e')) (k : wpO R C nt ops (L.drop n) ((t, v) :: e) S Q) : wpO R C nt ops L e S Q := by
  have := wpO.app (R := R) (C := C) (nt := nt) (ops := ops) (L.take n) (l2 := L.drop n) (e := e) (S := S) (Q := Q) (h.mono fun r hr => by obtain ⟨e', rfl, hw⟩ := hr; exact wpO.weak hw k)
  rwa [List.take_append_drop] at this
theorem wpO.bool {b c : Bool} (hb : b = c) (k : wpO R C nt ops rest ((t, .d (.bool c)) :: e) S Q) : wpO R C nt ops rest ((t, .d (.bool b)) :: e) S Q := by subst hb; exact k
theorem wpO.less {y' : AV} (h : Less y' v) (k : wpO R C nt ops rest ((t, y') :: e) S Q) : wpO R C nt ops rest ((t, v) :: e) S Q := wpO.weak (WeakE.top h) k
end steps

theorem Less.eq {x y : AV} (h : x = y) : Less x y := by subst h; exact .refl x
theorem toDs_d : ∀ (l : List D), toDs (l.map .d) = some l
  | [] => rfl
  | x :: l => by simp [toDs, toD, toDs_d l]
theorem allD_toDs : ∀ {cs : List AV} {xs : List D}, allD cs = some xs → toDs cs = some xs
  | [], xs, h => by simp only [allD, Option.some.injEq] at h; subst h; rfl
  | .d x :: l, xs, h => by
    simp only [allD, Option.map_eq_some_iff] at h
    obtain ⟨ys, h1, rfl⟩ := h
    simp [toDs, toD, allD_toDs h1]
theorem agg_less {ys xs : List D} (h : DLessL ys xs) (hy : ∀ y ∈ ys, y.isAgg = false) (hx : ∀ x ∈ xs, x.isAgg = false) : DLess (.agg ys) (.agg xs) := fun w fr v hr => by
  refine ⟨?_, hr.2⟩
  have h1 := hr.1
  generalize hcs : v.cells.toList = cs at h1 ⊢
  cases h1 with
  | agg _ _ hl ho hn hh =>
    refine .agg ys cs (by rw [hl, h.len]) ho hy (fun i y u hi hu => ?_)
    have hlt : i < xs.length := by rw [← h.len]; exact (List.getElem?_eq_some_iff.1 hi).1
    have hx' := List.getElem?_eq_getElem hlt
    have ho' := ho u (List.mem_of_getElem? hu)
    have := hh i _ u hx' hu
    have hcell : u.cells = #[u] ∧ vAgg u = false := by
      cases u <;> simp_all [Value.oneCell', Value.cells, vAgg]
    have hd : DRel w fr xs[i] u := ⟨by rw [hcell.1]; exact this, by rw [hcell.2]; exact hx _ (List.mem_of_getElem? hx')⟩
    have := (h.get hi hx' w fr u hd).1
    rw [hcell.1] at this
    exact this
theorem DLessL.agg {ys xs : List D} (h : DLessL ys xs) (hy : ∀ y ∈ ys, y.isAgg = false) : ∀ x ∈ xs, True := fun _ _ => trivial
/-- Cells of which a struct is made. -/
def CellsC (cs : List AV) (ds : List D) : Prop := ∃ ds', toDs cs = some ds' ∧ DLessL ds ds' ∧ (∀ d ∈ ds, d.isAgg = false) ∧ ∀ d ∈ ds', d.isAgg = false
theorem CellsC.nil : CellsC [] [] := ⟨[], rfl, .nil, by simp, by simp⟩
theorem CellsC.consW {x : AV} {d d' : D} {xs : List AV} {ds : List D} (h : toD x = some d') (hc : DLess d d') (h1 : d.isAgg = false) (h2 : d'.isAgg = false) (k : CellsC xs ds) : CellsC (x :: xs) (d :: ds) := by
  obtain ⟨ds', k1, k2, k3, k4⟩ := k
  exact ⟨d' :: ds', by simp only [toDs, h, k1, Option.map_some], .cons hc k2, fun y hy => by rcases List.mem_cons.1 hy with rfl | hy; exact h1; exact k3 y hy, fun y hy => by rcases List.mem_cons.1 hy with rfl | hy; exact h2; exact k4 y hy⟩
theorem CellsC.cons {x : AV} {d d' : D} {xs : List AV} {ds : List D} (h : toD x = some d') (hc : d'.cn = d) (h2 : d'.isAgg = false) (k : CellsC xs ds) : CellsC (x :: xs) (d :: ds) := .consW h (.of_cn hc) (by rw [← hc, D.cn_isAgg]; exact h2) h2 k
theorem CellsC.eq {d : D} {xs : List AV} {ds : List D} (h : d.isAgg = false) (k : CellsC xs ds) : CellsC (.d d :: xs) (d :: ds) := .consW rfl (.refl d) h h k
theorem CellsC.args {cs : List AV} {ds : List D} (h : CellsC cs ds) : ArgsC cs ds := let ⟨ds', h1, h2, _⟩ := h; ⟨ds', h1, h2⟩
theorem CellsC.pack {cs : List AV} {ds : List D} (h : CellsC cs ds) : ArgsC [mkAgg cs] [.agg ds] := by
  obtain ⟨ds', h1, h2, h3, h4⟩ := h
  refine ⟨[.agg ds'], ?_, .cons (agg_less h2 h3 h4) .nil⟩
  have : toD (mkAgg cs) = some (.agg ds') := by
    unfold mkAgg
    split
    · rename_i xs hx
      have := allD_toDs hx
      rw [h1] at this
      cases this
      rfl
    · show (toDs cs).map D.agg = _
      rw [h1]; rfl
  simp only [toDs, this, Option.map_some]
theorem ArgsC.less {x : AV} {d : D} (h : ArgsC [x] [d]) : Less (.d d) x := by
  obtain ⟨ds', h1, h2⟩ := h
  simp only [toDs] at h1
  split at h1
  · rename_i y hy
    simp only [Option.map_some, Option.some.injEq] at h1
    subst h1
    cases h2 with
    | cons h _ => exact fun cx S w v hr => .d _ _ (h _ _ _ (toD_sound hy hr))
  · cases h1
theorem Less.mkAgg {cs : List AV} {ds : List D} (h : CellsC cs ds) : Less (.d (.agg ds)) (mkAgg cs) := h.pack.less
theorem sl_cn {α : Type} {enc : α → D} (h : ∀ x, (enc x).cn = enc x) (l : List α) (b : Bool) : (D.sl (l.map enc) b).cn = .sl (l.map enc) false := by
  simp only [D.cn, D.cns_map, List.map_map]
  congr 1
  exact List.map_congr_left (fun x _ => h x)
theorem ArgsC.grow {α : Type} {enc : α → D} {S : St} {l : List Asn} (H : Has B S l) {i : Nat} {v : AV} {xs : List α} (hi : l[i]? = some (.grow v (xs.map enc))) {vs : List AV} {ds : List D} (k : ArgsC vs ds) : ArgsC (v :: vs) (.sl (xs.map enc) false :: ds) := by
  obtain ⟨d, h1, h2⟩ := grow_D (H.at hi)
  exact ArgsC.consW h1 h2 k
theorem CellsC.grow {α : Type} {enc : α → D} {S : St} {l : List Asn} (H : Has B S l) {i : Nat} {v : AV} {xs : List α} (hi : l[i]? = some (.grow v (xs.map enc))) {vs : List AV} {ds : List D} (k : CellsC vs ds) : CellsC (v :: vs) (.sl (xs.map enc) false :: ds) := by
  obtain ⟨d, h1, h2⟩ := grow_D (H.at hi)
  refine CellsC.consW h1 h2 rfl ?_ k
  have hg := H.at hi
  simp only [Asn.ok] at hg
  split at hg
  · cases h1; rfl
  · cases h1; rfl
  · cases h1; rfl
  · exact hg.elim
/-- The end of a function. -/
theorem end1 {v : AV} {d : D} (h : ArgsC [v] [d]) : ∃ v', toDT v = some v' ∧ AnsL (.d d) v' := by
  obtain ⟨ds', h1, h2⟩ := h
  simp only [toDs] at h1
  split at h1
  · rename_i y hy
    simp only [Option.map_some, Option.some.injEq] at h1
    subst h1
    cases h2 with
    | cons h2 _ =>
    refine ⟨.d y, ?_, .one h2⟩
    unfold toDT
    split
    · simp [toD] at hy
    · rw [hy]; rfl
  · cases h1
end
end Go.Ev


namespace Go.Ev
set_option linter.unusedVariables false
set_option linter.unusedSimpArgs false
variable {B : St}
abbrev Str := List UInt8
abbrev encL {α : Type} (enc : α → D) (l : List α) : D := .sl (l.map enc) false
theorem cns_self : ∀ {l : List D}, (∀ d ∈ l, d.cn = d) → D.cns l = l
  | [], _ => rfl
  | x :: l, h => by rw [D.cns, h x List.mem_cons_self, cns_self (fun d hd => h d (List.mem_cons_of_mem _ hd))]
theorem agg_cn {l : List D} (h : ∀ d ∈ l, d.cn = d) : (D.agg l).cn = .agg l := by rw [D.cn, cns_self h]
theorem Less.agg' {cs : List AV} {ds : List D} {d : D} (h : CellsC cs ds) (hd : d = .agg ds) : Less (.d d) (Ev.mkAgg cs) := by subst hd; exact Less.mkAgg h
theorem growL {α : Type} {enc : α → D} {S : St} {l : List Asn} (H : Has B S l) {i : Nat} {v : AV} {xs : List α} (hi : l[i]? = some (.grow v (xs.map enc))) : Less (.d (.sl (xs.map enc) false)) v := (ArgsC.grow H hi .nil).less
theorem slL' {xs : List D} {b : Bool} : Less (.d (.sl xs false)) (.d (.sl xs b)) := (DLess.untight xs b).less
theorem nilL {b : Bool} : Less (.d (.sl [] b)) (.d .nils) := (DLess.nils b).less
theorem app_bound {α : Type} {enc : α → D} {nb : Nat} {l ys r : List α} (h : app nb l ys = some r) : ((l.map enc).length + (ys.map enc).length) * nb ≤ bound := by
  have := (app_some h).1
  simpa using this
theorem app_eq {α : Type} {enc : α → D} {nb : Nat} {l ys r : List α} (h : app nb l ys = some r) : l.map enc ++ ys.map enc = r.map enc := by
  rw [(app_some h).2, List.map_append]
def remI (k : IntKind) (a b : Int) : Option Int := if b = 0 then none else some (a.tmod b)
theorem binD_remI {P : Program} {t : Nat} {k : IntKind} {a b z : Int} (h : remI k a b = some z) : binD P t .rem (.d (.int k a)) (.d (.int k b)) = some (.int k z) := by
  unfold remI at h
  split at h
  · cases h
  · rename_i hb; rw [binD_rem hb]; cases h; rfl
def minI (a b : Int) : Int := if b < a then b else a
def maxI (a b : Int) : Int := if b > a then b else a
section
variable {C : Cfg} {ρ : Operand → Option AV} {S : St} {x y z : Operand} {t : Nat}
theorem oper_min {k : IntKind} {a b : Int} {ts : Array Nat} (hx : ρ x = some (.d (.int k a))) (hy : ρ y = some (.d (.int k b))) : oper C ρ S (.call { callee := .builtin .min, args := #[x, y], argTypes := ts }) = some (.val (.d (.int k (minI a b))) S) := by
  have : mapO ρ [x, y] = some [.d (.int k a), .d (.int k b)] := by simp only [mapO, hx, hy, Option.map_some]
  simp only [oper, this, builtinAV, minmax, if_true, Option.map_some]; rfl
theorem oper_max {k : IntKind} {a b : Int} {ts : Array Nat} (hx : ρ x = some (.d (.int k a))) (hy : ρ y = some (.d (.int k b))) : oper C ρ S (.call { callee := .builtin .max, args := #[x, y], argTypes := ts }) = some (.val (.d (.int k (maxI a b))) S) := by
  have : mapO ρ [x, y] = some [.d (.int k a), .d (.int k b)] := by simp only [mapO, hx, hy, Option.map_some]
  simp only [oper, this, builtinAV, minmax, if_true, Option.map_some]; rfl
theorem oper_lenL {α : Type} {enc : α → D} {l : List α} {b : Bool} {tt : Nat} (h : ρ x = some (.d (.sl (l.map enc) b))) (ht : (elemSl C.P tt).isSome = true) : oper C ρ S (.call { callee := .builtin .len, args := #[x], argTypes := #[tt] }) = some (.val (.d (.int .i64 (l.length : Int))) S) :=
  oper_len h (lenTy_sl ht) (by simp [lenAV])
theorem oper_lenG {α : Type} {enc : α → D} {xs : List α} {tt : Nat} {S0 : St} {l : List Asn} (H : Has B S0 l) {i : Nat} {v : AV} (hi : l[i]? = some (.grow v (xs.map enc))) (h : ρ x = some v) (ht : (elemSl C.P tt).isSome = true) : oper C ρ S (.call { callee := .builtin .len, args := #[x], argTypes := #[tt] }) = some (.val (.d (.int .i64 (xs.length : Int))) S) :=
  oper_len h (lenTy_grow H hi ht) (by rw [lenAV_grow H hi]; simp)
theorem bytesOfD_map : ∀ (l : List Int), bytesOfD (l.map (D.int .u8)) = some (l.map fun n => UInt8.ofNat n.toNat)
  | [] => rfl
  | n :: l => by simp only [List.map_cons, bytesOfD, bytesOfD_map l, Option.map_some]
theorem oper_conv_bytes {src dst : Nat} {l : List Int} {b : Bool} (h : ρ x = some (.d (.sl (l.map (D.int .u8)) b))) (hd : strT C.P dst = true) (hs : byteSl C src = true) : oper C ρ S (.convert src dst x) = some (.val (.d (.str (l.map fun n => UInt8.ofNat n.toNat))) S) := by
  simp only [oper, h, convAV, hd, hs, Bool.and_self, if_true, bytesOfD_map, Option.map_some]

/-! ### Structs and slices that are put together -/
def placeL (l : List (Nat × Nat)) : Nat → Option (Nat × Nat) := fun i => l[i]?
def placesOf (P : Program) (t : Nat) : Option (List (Nat × Nat)) := match P.underlying t with
  | some (.struct fs) => if fs.all fun f => (P.underlying f.type).isSome then some (fs.toList.map fun x => (x.offset, szOf P x.type)) else none
  | _ => none
theorem placeL_of {l : List (Nat × Nat)} (h : placesOf C.P t = some l) : oper.P_place C t = some (placeL l) := by
  unfold placesOf at h
  unfold oper.P_place
  split at h
  · rename_i fs hu
    simp only [hu]
    split at h
    · rename_i ha
      rw [if_pos ha]
      simp only [Option.some.injEq] at h
      subst h
      congr 1
      funext i
      simp [placeL]
    · cases h
  · cases h
theorem oper_build {ps : Array (Nat × Operand)} {z : D} {pv : List (Nat × AV)} {pl : Nat → Option (Nat × Nat)} {cs : List AV} (hz : zeroOf C.P t = some z) (he : evals ρ ps = some pv) (hp : oper.P_place C t = some pl) (hf : fillD cellsP pl (AV.d z).cells pv = some cs) : oper C ρ S (.build t ps) = some (.val (mkAgg cs) S) := by
  simp only [oper, hz, he, hp, hf, Option.map_some]

/-- Parts that are data of one size. -/
inductive PartsD (sz : Nat) : List AV → List D → Prop
  | nil : PartsD sz [] []
  | cons {v : AV} {d : D} {vs : List AV} {ds : List D} (h : toD v = some d) (hl : d.cells.length = sz) (k : PartsD sz vs ds) : PartsD sz (v :: vs) (d :: ds)
def enumF (n : Nat) : List AV → List (Nat × AV)
  | [] => []
  | v :: l => (n, v) :: enumF (n + 1) l
theorem setAt_mid {α : Type} : ∀ (l a b c : List α), l.length = b.length → setAt (a ++ b ++ c) a.length l = a ++ l ++ c
  | [], a, b, c, h => by
    have : b = [] := List.eq_nil_of_length_eq_zero h.symm
    subst this; simp [setAt]
  | v :: l, a, b, c, h => by
    cases b with
    | nil => simp at h
    | cons w b =>
      simp only [List.length_cons, Nat.add_right_cancel_iff] at h
      have := setAt_mid l (a ++ [v]) b c h
      simp only [setAt]
      have e : (a ++ w :: b ++ c).set a.length v = a ++ [v] ++ b ++ c := by
        simp [List.set_append]
      rw [e, show a.length + 1 = (a ++ [v]).length by simp, this]
      simp
theorem fill_parts {sz : Nat} {vs : List AV} {ds : List D} (h : PartsD sz vs ds) : ∀ (done : List D) (todo : List D), (∀ d ∈ done, d.cells.length = sz) → todo.length = vs.length * sz →
    fillD cellsD (fun i => some (i * sz, sz)) ((done.map D.cells).flatten ++ todo) (enumF done.length vs) = some (((done ++ ds).map D.cells).flatten) := by
  induction h with
  | nil =>
    intro done todo _ ht
    have : todo = [] := List.eq_nil_of_length_eq_zero (by simpa using ht)
    subst this
    simp [enumF, fillD]
  | @cons v d vs ds h hl k ih =>
    intro done todo hd ht
    have hlen : ((done.map D.cells).flatten).length = done.length * sz := by
      clear ih ht
      induction done with
      | nil => simp
      | cons x l ihl =>
        simp only [List.map_cons, List.flatten_cons, List.length_append, hd x List.mem_cons_self, List.length_cons, ihl (fun d h => hd d (List.mem_cons_of_mem _ h))]
        rw [Nat.add_mul]; omega
    simp only [List.length_cons] at ht
    rw [Nat.add_mul, Nat.one_mul] at ht
    have hc : cellsD v = some d.cells := by simp only [cellsD, h]
    simp only [enumF, fillD, hc]
    rw [if_pos ⟨hl, by rw [List.length_append, hlen, hl]; omega⟩]
    have e1 : todo = todo.take sz ++ todo.drop sz := (List.take_append_drop sz todo).symm
    have e2 : setAt ((done.map D.cells).flatten ++ todo) (done.length * sz) d.cells = ((done ++ [d]).map D.cells).flatten ++ todo.drop sz := by
      rw [e1, ← List.append_assoc, ← hlen, setAt_mid _ _ _ _ (by rw [hl, List.length_take]; omega)]
      simp
    rw [e2]
    have := ih (done ++ [d]) (todo.drop sz) (fun x hx => by
      rcases List.mem_append.1 hx with hx | hx
      · exact hd x hx
      · rw [List.mem_singleton.1 hx]; exact hl) (by rw [List.length_drop]; omega)
    rw [show (done ++ [d]).length = done.length + 1 by simp] at this
    rw [this]
    simp
theorem chunk_flat {sz : Nat} : ∀ (ds : List D), (∀ d ∈ ds, d.cells.length = sz) → chunk sz ds.length ((ds.map D.cells).flatten) = ds.map D.cells
  | [], _ => rfl
  | d :: ds, h => by
    have hd := h d List.mem_cons_self
    simp only [List.length_cons, chunk, List.map_cons, List.flatten_cons]
    rw [List.take_append_of_le_length (by omega), List.take_of_length_le (by omega), List.drop_append_of_le_length (by omega), List.drop_of_length_le (by omega), List.nil_append, chunk_flat ds (fun d hd => h d (List.mem_cons_of_mem _ hd))]
theorem elems_back {ag : Bool} : ∀ (ds : List D), (∀ d ∈ ds, if ag = true then d.isAgg = true else d.isAgg = false) → mapO (elemD ag) (ds.map D.cells) = some ds
  | [], _ => rfl
  | d :: ds, h => by
    have hd := h d List.mem_cons_self
    have : elemD ag d.cells = some d := by
      unfold elemD
      cases ag with
      | true =>
        simp only [if_true] at hd ⊢
        cases d <;> simp_all [D.isAgg, D.cells]
      | false =>
        simp only [Bool.false_eq_true, if_false] at hd ⊢
        cases d <;> simp_all [D.isAgg, D.cells]
    simp only [List.map_cons, mapO, this, elems_back ds (fun d hd => h d (List.mem_cons_of_mem _ hd)), Option.map_some]
theorem PartsD.len {sz : Nat} {vs : List AV} {ds : List D} (h : PartsD sz vs ds) : ds.length = vs.length ∧ ∀ d ∈ ds, d.cells.length = sz := by
  induction h with
  | nil => exact ⟨rfl, by simp⟩
  | cons h hl k ih => exact ⟨by simp [ih.1], fun d hd => by rcases List.mem_cons.1 hd with rfl | hd; exact hl; exact ih.2 d hd⟩
theorem oper_buildSlice {n el sz : Nat} {ag : Bool} {ps : Array (Nat × Operand)} {zd : D} {vs : List AV} {ds : List D} (hr : C.rowT t = false) (he : elemSl C.P t = some el) (ha : aggO C.P el = some ag) (hz : zeroOf C.P el = some zd) (hs : szOf C.P el = sz) (hzl : zd.cells.length = sz) (hb : n * sz ≤ 16777216 ∧ 0 < n * sz)
    (hv : PartsD sz vs ds) (hn : vs.length = n) (hg : ∀ d ∈ ds, if ag = true then d.isAgg = true else d.isAgg = false) (hev : evals ρ ps = some (enumF 0 vs)) : oper C ρ S (.buildSlice t n ps) = some (.val (.d (.sl ds true)) S) := by
  obtain ⟨k1, k2⟩ := hv.len
  subst hs
  have f1 := fill_parts hv [] ((List.replicate n zd.cells).flatten) (by simp) (by
    rw [List.length_flatten, List.map_replicate, List.sum_replicate_nat, hzl, hn])
  simp only [List.map_nil, List.flatten_nil, List.nil_append, List.length_nil] at f1
  have f2 := chunk_flat ds k2
  rw [k1, hn] at f2
  simp only [oper, asRow, hr, Bool.false_and, cond_false, he, hev]
  rw [if_pos hb.1, if_neg (by omega)]
  simp only [hz, hzl, if_true, f1, ha, f2, elems_back ds hg, Option.map_some]
end
end Go.Ev
namespace Go.Ev
end Go.Ev
namespace Go.Ev
variable {B : St}
end Go.Ev
namespace Go.Ev
end Go.Ev


namespace Go.Ev
set_option linter.unusedVariables false
set_option linter.unusedSimpArgs false
variable {B : St}
variable {R : ObjR} {C : Cfg} {nt : Nat}

/-! ### Regions that draw their order, operation by operation -/
def wpD (C : Cfg) (h : Hand) (nt : Nat) (ops : Array Oper) (I : List Nat) (K : List Nat) : List (Nat × Oper) → Env → St → (Env → St → Prop) → Prop
  | [], e, S, Q => Q e S
  | (i, o) :: rest, e, S, Q => ∃ e1 S1, stepE C h nt ops o e S = some (.go e1 S1) ∧ KOk C h nt ops I o e (K.getD i 2) ∧ Keep I (K.getD i 2) S S1 ∧ wpD C h nt ops I K rest e1 S1 Q

/-- Operations with their numbers. -/
def enumO : Nat → List Oper → List (Nat × Oper)
  | _, [] => []
  | k, o :: l => (k, o) :: enumO (k + 1) l
theorem wpD_run {h : Hand} {ops : Array Oper} {I : List Nat} {K : List Nat} : ∀ (l : List (Nat × Oper)) {e : Env} {S : St} {Q : Env → St → Prop}, (∀ p ∈ l, ops[p.1]? = some p.2) → wpD C h nt ops I K l e S Q →
    ∃ e' S', Run C h nt ops I (fun i => K.getD i 2) (l.map (·.1)) e S e' S' ∧ Q e' S'
  | [], e, S, Q, _, hv => ⟨e, S, .nil _ _, hv⟩
  | (i, o) :: l, e, S, Q, hl, ⟨e1, S1, h1, h2, h3, h4⟩ => by
    obtain ⟨e', S', r, q⟩ := wpD_run l (fun p hp => hl p (List.mem_cons_of_mem _ hp)) h4
    exact ⟨e', S', .cons i _ o _ _ _ _ _ _ (hl (i, o) List.mem_cons_self) h1 h2 h3 r, q⟩

theorem enumO_spec {ops : Array Oper} : ∀ (l : List Oper) (k : Nat), (∀ j, l[j]? = ops[k + j]?) → (∀ p ∈ enumO k l, ops[p.1]? = some p.2) ∧ (enumO k l).map (·.1) = (List.range l.length).map (k + ·)
  | [], k, _ => ⟨by simp [enumO], rfl⟩
  | o :: l, k, hl => by
    have h0 : ops[k]? = some o := by simpa using (hl 0).symm
    obtain ⟨a, b⟩ := enumO_spec l (k + 1) (fun j => by have := hl (j + 1); simpa [Nat.add_assoc, Nat.add_comm 1 j] using this)
    refine ⟨fun p hp => ?_, ?_⟩
    · rcases List.mem_cons.1 hp with rfl | hp
      · exact h0
      · exact a p hp
    · simp only [enumO, List.map_cons, b]
      rw [List.length_cons, List.range_succ_eq_map, List.map_cons, Nat.add_zero, List.map_map]
      congr 1
      apply List.map_congr_left
      intro x _
      simp; omega

def pairK (ops : Array Oper) (K : List Nat) : Bool :=
  let B := Region.before ops
  (List.range ops.size).all fun i => (List.range i).all fun k => (B.getD i 0).testBit k || okK (K.getD k 2) (K.getD i 2)

theorem WpC.drawn (hR : ObjOkC R C) (hm : C.P.follows .mixedOrders = true) {T : List Fact} (hT : ∀ x ∈ T, x.ok R C.P) {id : Nat} {ops : Array Oper} (hok : regOk ops = true) {l : List Oper} (hl : ops.toList = l) (I : List Nat) (K : List Nat) (hK : pairK ops K = true)
    {e : Env} {S : St} {Q : Res → Prop} (h : wpD C (det (tableH T)) nt ops I K (enumO 0 l) e S (fun e' S' => Q (.normal, e', S'))) : WpC R C.P nt (.region id ops true) e S Q := by
  intro cx w a Kx hS he hk
  subst hl
  obtain ⟨x1, x2⟩ := enumO_spec (ops := ops) ops.toList 0 (by simp)
  obtain ⟨e', S', hrun, hq⟩ := wpD_run (enumO 0 ops.toList) x1 h
  rw [x2] at hrun
  obtain ⟨d1, d2⟩ := drew_sound hR.toObjOk hS
  refine wp_region_any hm ?_
  have hfl : ((List.range ops.size).filter fun i => !(Array.replicate ops.size false).getD i false) = List.range ops.size := by
    rw [List.filter_eq_self]; intro i hi; rw [rep_false]; rfl
  have hKK : ∀ i k, k < i → i < ops.size → ((Region.before ops).getD i 0).testBit k = true ∨ okK (K.getD k 2) (K.getD i 2) = true := by
    intro i k hki hi
    have := List.all_eq_true.1 hK i (List.mem_range.2 hi)
    have := List.all_eq_true.1 this k (List.mem_range.2 hki)
    simpa only [Bool.or_eq_true] using this
  refine draw_any hR (det_ok (tableH_ok hT)) hok hKK ops.size (Array.replicate ops.size false) (cx := cx) (S := S) (S' := S') (w := w.drew) (e := e) (e' := e') (by simp) (fun j hj => by rw [rep_false] at hj; cases hj) (by rw [hfl]; simp) (by rw [hfl]; simpa using hrun) d1 (he.mono d2) (fun cx' a' w' e'' q1 q2 q3 q4 q5 => ?_)
  exact hk (.normal, e', S') hq cx' a' w' q1 (d2.trans q2) ⟨q3.size, fun t x hx => q3.rel t x (by rw [q4 t]; exact hx)⟩ q5

section rules
variable {T : List Fact} {ops : Array Oper} {rest : List (Nat × Oper)} {I K : List Nat} {e : Env} {S S' : St} {Q : Env → St → Prop} {l l' : List Asn} {t ty i : Nat} {p : String} {af : Array Edge} {g : Option (Nat × Bool)} {v : AV} {x y : Operand}

theorem stepE_val {h : Hand} {op : Op} {v : AV} (hw : wantedE ops e { dst := some t, op := op, type := ty, pos := p, after := af, guard := g } = some true) (ho : oper C (evalO e) S op = some (.val v S')) (ht : Nat.blt t nt = true) :
    stepE C h nt ops { dst := some t, op := op, type := ty, pos := p, after := af, guard := g } e S = some (.go ((t, v) :: e) S') := by
  simp only [stepE, hw, ho, Env.put, ht, cond_true]

/-- What looks at no memory. -/
theorem wpD.val {op : Op} {v : AV} (hp : PureOk (det (tableH T))) (hk : K.getD i 2 = 0) (hc : cls C op = 0) (hw : wantedE ops e { dst := some t, op := op, type := ty, pos := p, after := af, guard := g } = some true) (ho : oper C (evalO e) S op = some (.val v S)) (ht : Nat.blt t nt = true)
    (k : wpD C (det (tableH T)) nt ops I K rest ((t, v) :: e) S Q) : wpD C (det (tableH T)) nt ops I K ((i, { dst := some t, op := op, type := ty, pos := p, after := af, guard := g }) :: rest) e S Q := by
  have hs := stepE_val (C := C) (nt := nt) (h := det (tableH T)) hw ho ht
  refine ⟨_, S, hs, ⟨fun _ => step_k hp hs (by unfold kOf; rw [if_pos (by rw [hc]; omega)]; exact hc), fun q => (by rw [hk] at q; cases q), fun q => (by rw [hk] at q; cases q)⟩, fun q => (by rw [hk] at q; cases q), k⟩
/-- What looks at memory. -/
theorem wpD.read {op : Op} {v : AV} (hk : K.getD i 2 = 1) (hc : cls C op = 1) (hi : ∀ id ∈ (idsOf (evalO e) op).getD [], id ∈ I) (hw : wantedE ops e { dst := some t, op := op, type := ty, pos := p, after := af, guard := g } = some true) (ho : oper C (evalO e) S op = some (.val v S)) (ht : Nat.blt t nt = true)
    (k : wpD C (det (tableH T)) nt ops I K rest ((t, v) :: e) S Q) : wpD C (det (tableH T)) nt ops I K ((i, { dst := some t, op := op, type := ty, pos := p, after := af, guard := g }) :: rest) e S Q := by
  have hs := stepE_val (C := C) (nt := nt) (h := det (tableH T)) hw ho ht
  refine ⟨_, S, hs, ⟨fun q => (by rw [hk] at q; cases q), fun _ => ⟨by rw [hc]; omega, hi⟩, fun q => (by rw [hk] at q; cases q)⟩, fun q => (by rw [hk] at q; cases q), k⟩
/-- A call that is in the table. -/
theorem wpD.ret {op : Op} {f : Nat} {args : List AV} {v : AV} (hp : PureOk (det (tableH T))) (hk : K.getD i 2 = 0) (hw : wantedE ops e { dst := some t, op := op, type := ty, pos := p, after := af, guard := g } = some true) (ho : oper C (evalO e) S op = some (.call f args)) (hd : det (tableH T) f args S = some (none, v, S)) (ha : (toDs args).isSome = true) (hv : (toDT v).isSome = true) (ht : Nat.blt t nt = true) (hcl : cls C op = 2) (hnw : isNew C op = false)
    (k : wpD C (det (tableH T)) nt ops I K rest ((t, v) :: e) S Q) : wpD C (det (tableH T)) nt ops I K ((i, { dst := some t, op := op, type := ty, pos := p, after := af, guard := g }) :: rest) e S Q := by
  have hs : stepE C (det (tableH T)) nt ops { dst := some t, op := op, type := ty, pos := p, after := af, guard := g } e S = some (.go ((t, v) :: e) S) := by
    simp only [stepE, hw, ho, hd, Env.put, ht, cond_true]
  refine ⟨_, S, hs, ⟨fun _ => step_k hp hs ?_, fun q => (by rw [hk] at q; cases q), fun q => (by rw [hk] at q; cases q)⟩, fun q => (by rw [hk] at q; cases q), k⟩
  unfold kOf
  rw [if_neg (by rw [hcl]; omega), if_neg (by rw [hnw]; simp)]
  unfold kTail
  simp only [hw, ho]
  have : quietB { dst := some t, op := op, type := ty, pos := p, after := af, guard := g } ((t, v) :: e) args = true := by
    unfold quietB
    simp only [ha, AL.get_cons, if_true, hv, Bool.and_self]
  rw [this]; rfl
/-- A new variable. -/
theorem wpD.new {op : Op} {v : AV} (hk : K.getD i 2 = 3) (hn : isNew C op = true) (hw : wantedE ops e { dst := some t, op := op, type := ty, pos := p, after := af, guard := g } = some true) (ho : oper C (evalO e) S op = some (.val v S')) (ht : Nat.blt t nt = true)
    (k : wpD C (det (tableH T)) nt ops I K rest ((t, v) :: e) S' Q) : wpD C (det (tableH T)) nt ops I K ((i, { dst := some t, op := op, type := ty, pos := p, after := af, guard := g }) :: rest) e S Q := by
  have hs := stepE_val (C := C) (nt := nt) (h := det (tableH T)) hw ho ht
  refine ⟨_, S', hs, ⟨fun q => (by rw [hk] at q; cases q), fun q => (by rw [hk] at q; cases q), fun _ => hn⟩, fun q => (by rw [hk] at q; cases q), k⟩
theorem wpD.alloc {bt : Nat} {z : D} {cs : List AV} (H : Has B S l) (hk : K.getD i 2 = 3) (hw : wantedE ops e { dst := some t, op := .alloc bt, type := ty, pos := p, after := af, guard := g } = some true) (ho : C.objT bt = none) (hz : zeroOf C.P bt = some z) (hc : (AV.d z).cells = cs) (ht : Nat.blt t nt = true)
    (k : ∀ b S', Has B S' (.box b cs :: l) → wpD C (det (tableH T)) nt ops I K rest ((t, .ptr b 0 0) :: e) S' Q) :
    wpD C (det (tableH T)) nt ops I K ((i, { dst := some t, op := .alloc bt, type := ty, pos := p, after := af, guard := g }) :: rest) e S Q :=
  wpD.new hk rfl hw (oper_alloc H ho hz hc) ht (k _ _ (H.box cs))
/-- What writes: kind 2, or 4 where nobody looks. -/
theorem wpD.write0 {op : Op} (hk : K.getD i 2 = 2) (hw : wantedE ops e { dst := none, op := op, type := ty, pos := p, after := af, guard := g } = some true) (ho : oper C (evalO e) S op = some (.skip S'))
    (k : wpD C (det (tableH T)) nt ops I K rest e S' Q) : wpD C (det (tableH T)) nt ops I K ((i, { dst := none, op := op, type := ty, pos := p, after := af, guard := g }) :: rest) e S Q :=
  ⟨e, S', by simp only [stepE, hw, ho], ⟨fun q => (by rw [hk] at q; cases q), fun q => (by rw [hk] at q; cases q), fun q => (by rw [hk] at q; cases q)⟩, fun q => (by rw [hk] at q; cases q), k⟩
theorem wpD.write {op : Op} {v : AV} (hk : K.getD i 2 = 2) (hw : wantedE ops e { dst := some t, op := op, type := ty, pos := p, after := af, guard := g } = some true) (ho : oper C (evalO e) S op = some (.val v S')) (ht : Nat.blt t nt = true)
    (k : wpD C (det (tableH T)) nt ops I K rest ((t, v) :: e) S' Q) : wpD C (det (tableH T)) nt ops I K ((i, { dst := some t, op := op, type := ty, pos := p, after := af, guard := g }) :: rest) e S Q :=
  ⟨_, S', stepE_val hw ho ht, ⟨fun q => (by rw [hk] at q; cases q), fun q => (by rw [hk] at q; cases q), fun q => (by rw [hk] at q; cases q)⟩, fun q => (by rw [hk] at q; cases q), k⟩
theorem wpD.store {bt j id off n : Nat} {cs cv cs' : List AV} (H : Has B S l) (hk : K.getD i 2 = 2) (hw : wantedE ops e { dst := none, op := .store bt x y, type := ty, pos := p, after := af, guard := g } = some true) (ha : evalO e x = some (.ptr id 0 off)) (hy : evalO e y = some v) (hi : l[j]? = some (.box id cs)) (hcv : v.cells = cv) (hn : cv.length = n) (hz : szOf C.P bt = n) (hp : v.plain = true) (hag : (aggO C.P bt).isSome = true) (hb : Nat.ble (off + n) cs.length = true)
    (hs : setAt cs off cv = cs') (hl : l.set j (.box id cs') = l') (k : ∀ S', Has B S' l' → wpD C (det (tableH T)) nt ops I K rest e S' Q) :
    wpD C (det (tableH T)) nt ops I K ((i, { dst := none, op := .store bt x y, type := ty, pos := p, after := af, guard := g }) :: rest) e S Q := by
  subst hs
  subst hl
  exact wpD.write0 hk hw (oper_store H ha hy hcv hn hz hp hag hi hb) (k _ (H.write hi))
theorem wpD.append {t1 u j : Nat} {vy : AV} {xs ys zs : List D} {el nb : Nat} (H : Has B S l) (hk : K.getD i 2 = 2) (hw : wantedE ops e { dst := some t, op := .call { callee := .builtin .append, args := #[x, y], argTypes := #[t1, u] }, type := ty, pos := p, after := af, guard := g } = some true)
    (hx : evalO e x = some v) (hy : evalO e y = some vy) (hi : l[j]? = some (.grow v xs)) (hd : dataOf vy = some ys) (hnr : C.rowT t1 = false) (hu : okSrc C u = true) (he : elemSl C.P t1 = some el) (hb : (xs.length + ys.length) * nb ≤ bound) (hnb : bytesOf C.P el = nb) (h0 : (Nat.blt 0 nb && Nat.ble nb 65536) = true)
    (hsx : sizes (szOf C.P el) xs = true) (hsy : sizes (szOf C.P el) ys = true) (hz : zeroOk C el = true) (ht : Nat.blt t nt = true) (hzs : xs ++ ys = zs)
    (k : ∀ v' S', Has B S' (l.set j (.grow v' zs)) → wpD C (det (tableH T)) nt ops I K rest ((t, v') :: e) S' Q) :
    wpD C (det (tableH T)) nt ops I K ((i, { dst := some t, op := .call { callee := .builtin .append, args := #[x, y], argTypes := #[t1, u] }, type := ty, pos := p, after := af, guard := g }) :: rest) e S Q := by
  subst hzs
  obtain ⟨v', S', h1, h2⟩ := oper_append (ρ := evalO e) H hx hy hi hd hnr hu he hb hnb h0 hsx hsy hz
  exact wpD.write hk hw h1 ht (k v' S' h2)
end rules

/-- The facts of a table of pure calls. -/
theorem SpecC.fact {P : Program} {f : Nat} {ds : List D} {v : AV} (h : SpecC R P f ds v) {args : List AV} (ha : ArgsC args ds) : (Fact.pure f args v).ok R P := fun S => h args S ha
theorem ArgsC.isSome {args : List AV} {ds : List D} (h : ArgsC args ds) : (toDs args).isSome = true := by
  obtain ⟨ds', h1, _⟩ := h; rw [h1]; rfl
def Fact.num : Fact → Nat
  | .pure f _ _ => f
  | .full f _ _ _ _ => f
end Go.Ev
namespace Go.Ev
end Go.Ev
namespace Go.Ev
theorem ArgsC.seq {x : AV} {d : D} (h : ArgsC [x] [d]) {xs : List AV} {ds : List D} (k : ArgsC xs ds) : ArgsC (x :: xs) (d :: ds) := by
  obtain ⟨ds', h1, h2⟩ := h
  simp only [toDs] at h1
  split at h1
  · rename_i y hy
    simp only [Option.map_some, Option.some.injEq] at h1
    subst h1
    cases h2 with
    | cons h2 _ => exact ArgsC.consW hy h2 k
  · cases h1
end Go.Ev


namespace Go.Ev
set_option linter.unusedVariables false
set_option linter.unusedSimpArgs false
variable {R : ObjR} {C : Cfg} {P : Program} {nt : Nat} {B : St}

/-! ### Calls that are handed functions, or pointers: what they come to leaves the memory as it is -/
theorem LessL.rel {ys xs : List AV} (h : LessL ys xs) {cx : Cx} {S : St} {w : World} {us : List Value} (hr : ∀ (i : Nat) (x : AV) (u : Value), xs[i]? = some x → us[i]? = some u → ARel cx S w x u) :
    ∀ (i : Nat) (y : AV) (u : Value), ys[i]? = some y → us[i]? = some u → ARel cx S w y u := fun i y u hy hu => by
  have hlt : i < xs.length := by rw [← h.len]; exact (List.getElem?_eq_some_iff.1 hy).1
  have hx := List.getElem?_eq_getElem hlt
  exact h.get hy hx _ _ _ _ (hr i _ u hx hu)
theorem SpecF.argsL {f : Nat} {args args' : List AV} {S : St} {Q : Out → Prop} (h : SpecF R P f args' S Q) (hl : LessL args' args) : SpecF R P f args S Q :=
  ⟨h.1, fun cx w us h1 h2 h3 => h.2 cx w us h1 (by rw [h2, hl.len]) (hl.rel h3)⟩

theorem SpecS.of_wp {f : Nat} {fn : Func} {c : Code} (hf : C.P.funcs[f]? = some fn) (hc : fn.body = some c) (hn : (fn.name == "runtime.NumGoroutine") = false) {args : List AV} (hle : Nat.ble args.length fn.ntmps = true) {S : St} {v : AV}
    (h : S.Wf → WpC R C.P fn.ntmps c (enterE 0 args) S (endQ C fn (fun r => r.1 = none ∧ Keeps S r.2.2 ∧ ∃ v', toDT r.2.1 = some v' ∧ AnsL v v'))) : SpecF R C.P f args S (fun r => r = (none, v, S)) := by
  refine ⟨⟨fn, hf, by simp [hc], by simpa using hn⟩, fun cx w us hS hl hr => ?_⟩
  have hs := SpecF.of_wp hf hc hn (args := args) (Nat.le_of_ble_eq_true hle) (h hS.wf)
  refine (hs.2 cx w us hS hl hr).mono (fun e w' he => ?_)
  obtain ⟨⟨p, v1, S1⟩, ⟨hp, hk, v', hv, ha⟩, cx1, k1, k2, k3⟩ := he
  simp only at hp hv hk
  subst hp
  obtain ⟨d1, d2⟩ := sub_sound hS.wf k1 k2 (hk.sub hS)
  obtain ⟨u, rfl, k3⟩ := k3
  exact ⟨_, rfl, cx1, d1, d2, u, rfl, ha.rel (toDT_sound hv k3 (fun _ _ q => q))⟩

end Go.Ev
namespace Go.Ev
theorem oper_buildSlice0 {C : Cfg} {ρ : Operand → Option AV} {S : St} {t el : Nat} {ag : Bool} (hr : C.rowT t = false) (he : elemSl C.P t = some el) (ha : aggO C.P el = some ag) : oper C ρ S (.buildSlice t 0 #[]) = some (.val (.d (.sl [] true)) S) := by
  simp [oper, asRow, hr, he, ha, evals, mapO, fillD, chunk]
theorem fill1 {pl : Nat → Option (Nat × Nat)} {cells : List AV} {i off size : Nat} {v : AV} {rest : List (Nat × AV)} {cs' r : List AV} (hp : pl i = some (off, size)) (hc : cellsP v = some cs') (hl : cs'.length = size) (hb : Nat.ble (off + cs'.length) cells.length = true) (k : fillD cellsP pl (setAt cells off cs') rest = some r) : fillD cellsP pl cells ((i, v) :: rest) = some r := by
  simp only [fillD, hp, hc]
  rw [if_pos ⟨hl, Nat.le_of_ble_eq_true hb⟩]; exact k
theorem cellsP_d {d : D} {cs : List AV} (h : (AV.d d).cells = cs) : cellsP (.d d) = some cs := by subst h; rfl
theorem map_nil {α β : Type} {f : α → β} {l : List α} (h : l.map f = []) : l = [] := List.map_eq_nil_iff.1 h
/-- Part of a slice: from, to. -/
theorem cutSl_ok {α : Type} {enc : α → D} {C : Cfg} {t el : Nat} {l r : List α} {b : Bool} {lo hi : Option D} {x y : Int} (he : elemSl C.P t = some el) (hu : (C.P.underlying el).isSome = true) (hlen : ∀ z, (enc z).cells.length = szOf C.P el)
    (hlo : boundO lo 0 = some x.toNat ∧ 0 ≤ x) (hhi : boundO hi (l.map enc).length = some y.toNat ∧ 0 ≤ y) (h : cut l x y = some r) : ∃ b', cutSl C t (l.map enc) b lo hi none = some (.sl (r.map enc) b') ∧ (b = false → b' = false) := by
  obtain ⟨⟨h1, h2, h3⟩, rfl⟩ := cut_some h
  have hh : headSz (szOf C.P el) (l.map enc) = true := by
    cases l with
    | nil => rfl
    | cons z l => simp [headSz, hlen]
  refine ⟨b && Nat.beq y.toNat (l.map enc).length, ?_, fun h => by rw [h]; rfl⟩
  have e1 : decide (x.toNat ≤ y.toNat) = true := decide_eq_true (by omega)
  have e2 : decide (y.toNat ≤ (l.map enc).length) = true := decide_eq_true (by simp; omega)
  simp only [cutSl, he, hh, hu, Bool.and_self, if_true, hlo.1, hhi.1, e1, e2]
  simp [List.map_take, List.map_drop]
section
variable {α : Type} {enc : α → D} {C : Cfg} {ρ : Operand → Option AV} {S : St} {t el : Nat} {x lo hi : Operand} {l r : List α} {k k' : IntKind} {a c : Int}
theorem asNat_int {k : IntKind} {a : Int} (h : 0 ≤ a) : asNat (.int k a) = some a.toNat := by simp only [asNat, if_pos h]
theorem oper_cut_l (hx : ρ x = some (.d (.sl (l.map enc) false))) (hl : ρ lo = some (.d (.int k a))) (he : elemSl C.P t = some el) (hu : (C.P.underlying el).isSome = true) (hlen : ∀ z, (enc z).cells.length = szOf C.P el) (h : cut l a (l.length : Int) = some r) :
    oper C ρ S (.slice t x (some lo) none none) = some (.val (.d (.sl (r.map enc) false)) S) := by
  have hb := (cut_some h).1
  obtain ⟨b', h1, h2⟩ := cutSl_ok (C := C) (b := false) (lo := some (.int k a)) (hi := none) he hu hlen ⟨asNat_int (k := k) hb.1, hb.1⟩ ⟨by simp [boundO], by omega⟩ h
  rw [h2 rfl] at h1
  simp only [oper, hx, dOpt, hl, opSlice, h1, Option.map_some]
theorem oper_cut_h (hx : ρ x = some (.d (.sl (l.map enc) false))) (hh : ρ hi = some (.d (.int k' c))) (he : elemSl C.P t = some el) (hu : (C.P.underlying el).isSome = true) (hlen : ∀ z, (enc z).cells.length = szOf C.P el) (h : cut l 0 c = some r) :
    oper C ρ S (.slice t x none (some hi) none) = some (.val (.d (.sl (r.map enc) false)) S) := by
  have hb := (cut_some h).1
  obtain ⟨b', h1, h2⟩ := cutSl_ok (C := C) (b := false) (lo := none) (hi := some (.int k' c)) he hu hlen ⟨rfl, by omega⟩ ⟨asNat_int (k := k') (by omega), by omega⟩ h
  rw [h2 rfl] at h1
  simp only [oper, hx, dOpt, hh, opSlice, h1, Option.map_some]
end
section
variable {C : Cfg} {ρ : Operand → Option AV} {S : St} {t : Nat} {x lo hi : Operand} {s r : Str} {k k' : IntKind} {a c : Int}
end
end Go.Ev


namespace Go.Ev
noncomputable section
set_option linter.unusedVariables false
set_option linter.unusedSimpArgs false

/-! ### A strings.Builder of one's own -/
theorem Has.obj {B S : St} {l : List Asn} (h : Has B S l) (k : Nat) (x : D) : Has B (newBlk S (.obj k x)) (.obj S.nx k x :: l) :=
  h.new _ rfl (by simp [Asn.ok, newBlk, AL.get_set])
theorem Has.setObj {B S : St} {l : List Asn} (h : Has B S l) {i id k : Nat} {x y : D} (hi : l[i]? = some (.obj id k x)) : Has B { S with H := S.H.set id (.obj k y) } (l.set i (.obj id k y)) := by
  have hid := h.at hi
  refine h.set hi rfl (by simp [Asn.ok, AL.get_set]) (fun j hl => ?_) (fun j hj => ?_) (fun j hj => rfl) rfl
  · refine h.wf j ?_
    unfold live cur at hl ⊢
    simp only [AL.get_set] at hl
    by_cases hij : id = j
    · subst hij; rw [show S.H.get id = _ from hid]; simp
    · rw [if_neg hij] at hl; exact hl
  · simp only [Asn.fp, List.mem_singleton] at hj
    simp only [AL.get_set]
    rw [if_neg (fun q => hj q.symm)]
theorem Has.delObj {B S : St} {l : List Asn} (h : Has B S l) {i id k : Nat} {x : D} (hi : l[i]? = some (.obj id k x)) : Has B { S with H := S.H.del id } (l.eraseIdx i) := by
  have hil : i < l.length := (List.getElem?_eq_some_iff.1 hi).1
  have hma := List.mem_of_getElem? hi
  have hoth : ∀ j a, (l.eraseIdx i)[j]? = some a → ∃ j', j' ≠ i ∧ l[j']? = some a := fun j a hj => by
    rw [List.getElem?_eraseIdx] at hj
    split at hj
    · exact ⟨j, by omega, hj⟩
    · exact ⟨j + 1, by omega, hj⟩
  have hne : ∀ a ∈ l.eraseIdx i, ∀ z ∈ a.fp, z ≠ id := fun a ha z hz q => by
    subst q
    obtain ⟨j, hj, rfl⟩ := List.getElem_of_mem ha
    obtain ⟨j', hne, hj'⟩ := hoth j _ (List.getElem?_eq_getElem hj)
    exact fp_out h.nd hj' hi hne hz (by simp [Asn.fp])
  refine ⟨fun j hl => h.wf j ?_, fun a ha => ?_, h.nd.sublist (sub_flat Asn.fp (List.eraseIdx_sublist l i)), h.bwf, ⟨h.keeps.nx, fun j b hb => ?_, fun j n hn => h.keeps.T j n hn⟩, fun a ha => h.out a ((List.eraseIdx_sublist l i).subset ha)⟩
  · unfold live cur at hl ⊢
    simp only [AL.get_del] at hl
    by_cases hij : id = j
    · subst hij; rw [show S.H.get id = _ from h.at hi]; simp
    · rw [if_neg hij] at hl; exact hl
  · refine Asn.keep (h.ok a ((List.eraseIdx_sublist l i).subset ha)) (fun z hz => ?_) (fun z hz => rfl)
    simp only [AL.get_del]
    rw [if_neg (fun q => hne a ha z hz q.symm)]
  · have := h.keeps.H j b hb
    simp only [AL.get_del]
    rw [if_neg (fun q => by
      subst q
      have := (h.out _ hma id (by simp [Asn.fp])).1
      rw [this] at hb; cases hb)]
    exact this

def bldB (s : Str) (c : Int) : Option Str := if 0 ≤ c ∧ c < 256 ∧ s.length + 1 ≤ bound then some (s ++ [UInt8.ofNat c.toNat]) else none
def bldS (s t : Str) : Option Str := if s.length + t.length ≤ bound then some (s ++ t) else none

section
variable {R : ObjR} {C : Cfg} {nt : Nat} {ops : Array Oper} {rest : List Oper} {e : Env} {B S S' : St} {Q : Stp → Prop} {l l' : List Asn} {t ty : Nat} {p : String} {af : Array Edge} {g : Option (Nat × Bool)} {v : AV} {x y : Operand}
/-- What the library's Builder does. -/
structure BldOk (R : ObjR) (P : Program) (fb fs ft : Nat) : Prop where
  wb : ∀ (S : St) (id : Nat) (s : Str) (c : Int) (r : Str), S.H.get id = some (.obj 1 (.str s)) → bldB s c = some r → SpecF R P fb [.ptr id 0 0, .d (.int .u8 c)] S (fun o => o = (none, .d .nili, { S with H := S.H.set id (.obj 1 (.str r)) }))
  ws : ∀ (S : St) (id : Nat) (s u r : Str), S.H.get id = some (.obj 1 (.str s)) → bldS s u = some r → SpecF R P fs [.ptr id 0 0, .d (.str u)] S (fun o => o = (none, .tup [.d (.int .i64 (u.length : Nat)), .d .nili], { S with H := S.H.set id (.obj 1 (.str r)) }))
  st : ∀ (S : St) (id : Nat) (s : Str), S.H.get id = some (.obj 1 (.str s)) → SpecF R P ft [.ptr id 0 0] S (fun o => o = (none, .d (.str s), { S with H := S.H.del id }))

theorem wpO.wb {fb fs ft i id : Nat} (X : BldOk R C.P fb fs ft) {s r : Str} {c : Int} {as : Array Operand} {ts : Array Nat} (H : Has B S l) (hw : wantedE ops e { dst := some t, op := .call { callee := .value (.func fb), args := as, argTypes := ts }, type := ty, pos := p, after := af, guard := g } = some true)
    (ha : mapO (evalO e) as.toList = some [.ptr id 0 0, .d (.int .u8 c)]) (hi : l[i]? = some (.obj id 1 (.str s))) (hr : bldB s c = some r) (ht : Nat.blt t nt = true)
    (k : ∀ S', Has B S' (l.set i (.obj id 1 (.str r))) → wpO R C nt ops rest ((t, .d .nili) :: e) S' Q) :
    wpO R C nt ops ({ dst := some t, op := .call { callee := .value (.func fb), args := as, argTypes := ts }, type := ty, pos := p, after := af, guard := g } :: rest) e S Q :=
  wpO.ret hw (oper_callF ha rfl) (X.wb S id s c r (H.at hi) hr) ht (k _ (H.setObj hi))
theorem wpO.ws {fb fs ft i id : Nat} (X : BldOk R C.P fb fs ft) {s u r : Str} {as : Array Operand} {ts : Array Nat} (H : Has B S l) (hw : wantedE ops e { dst := some t, op := .call { callee := .value (.func fs), args := as, argTypes := ts }, type := ty, pos := p, after := af, guard := g } = some true)
    (ha : mapO (evalO e) as.toList = some [.ptr id 0 0, .d (.str u)]) (hi : l[i]? = some (.obj id 1 (.str s))) (hr : bldS s u = some r) (ht : Nat.blt t nt = true)
    (k : ∀ S', Has B S' (l.set i (.obj id 1 (.str r))) → wpO R C nt ops rest ((t, .tup [.d (.int .i64 (u.length : Nat)), .d .nili]) :: e) S' Q) :
    wpO R C nt ops ({ dst := some t, op := .call { callee := .value (.func fs), args := as, argTypes := ts }, type := ty, pos := p, after := af, guard := g } :: rest) e S Q :=
  wpO.ret hw (oper_callF ha rfl) (X.ws S id s u r (H.at hi) hr) ht (k _ (H.setObj hi))
theorem wpO.st {fb fs ft i id : Nat} (X : BldOk R C.P fb fs ft) {s : Str} {as : Array Operand} {ts : Array Nat} (H : Has B S l) (hw : wantedE ops e { dst := some t, op := .call { callee := .value (.func ft), args := as, argTypes := ts }, type := ty, pos := p, after := af, guard := g } = some true)
    (ha : mapO (evalO e) as.toList = some [.ptr id 0 0]) (hi : l[i]? = some (.obj id 1 (.str s))) (ht : Nat.blt t nt = true)
    (k : ∀ S', Has B S' (l.eraseIdx i) → wpO R C nt ops rest ((t, .d (.str s)) :: e) S' Q) :
    wpO R C nt ops ({ dst := some t, op := .call { callee := .value (.func ft), args := as, argTypes := ts }, type := ty, pos := p, after := af, guard := g } :: rest) e S Q :=
  wpO.ret hw (oper_callF ha rfl) (X.st S id s (H.at hi)) ht (k _ (H.delObj hi))
end

end
end Go.Ev


namespace Go.Ev
noncomputable section
set_option linter.unusedVariables false
set_option linter.unusedSimpArgs false
set_option linter.unusedSectionVars false

/-! ### Maps of one's own -/
section
variable {κ ν : Type} [BEq κ] [LawfulBEq κ]
def mEs (ek : κ → D) (ev : ν → D) : Nat → List (κ × ν) → List (D × AV × Nat)
  | _, [] => []
  | i, (k, v) :: l => (ek k, .d (ev v), i) :: mEs ek ev (i + 1) l
def mD (ek : κ → D) (ev : ν → D) (m : List (κ × ν)) : MapD := { es := mEs ek ev 0 m, clk := m.length }
def mfind (k : κ) : List (κ × ν) → Nat → Option (Nat × ν)
  | [], _ => none
  | (a, b) :: l, i => if k == a then some (i, b) else mfind k l (i + 1)
def mput (m : List (κ × ν)) (k : κ) (v : ν) : List (κ × ν) := match mfind k m 0 with
  | some (i, _) => m.set i (k, v)
  | none => m ++ [(k, v)]
structure KeyOk (P : Program) (t : Nat) (ek : κ → D) : Prop where
  eq : ∀ a b, eqvT P 20 t (ek a) (ek b) = some (a == b)
  same : ∀ a, D.same (ek a) (ek a) = true
  ok : ∀ a, keyOk P t (ek a) = true

theorem find_mEs {P : Program} {t : Nat} {ek : κ → D} {ev : ν → D} (K : KeyOk P t ek) (k : κ) : ∀ (m : List (κ × ν)) (i j : Nat), findK P t (ek k) (mEs ek ev i m) j = some ((mfind k m j).map fun r => (r.1, .d (ev r.2)))
  | [], i, j => rfl
  | (a, b) :: l, i, j => by
    simp only [mEs, findK, K.eq, mfind]
    cases hb : k == a with
    | true =>
      have := eq_of_beq hb
      subst this
      simp [K.same]
    | false => simp only [find_mEs K k l (i + 1) (j + 1)]; rfl
theorem mEs_append (ek : κ → D) (ev : ν → D) (k : κ) (v : ν) : ∀ (m : List (κ × ν)) (i : Nat), mEs ek ev i m ++ [(ek k, .d (ev v), i + m.length)] = mEs ek ev i (m ++ [(k, v)])
  | [], i => rfl
  | (a, b) :: l, i => by
    have := mEs_append ek ev k v l (i + 1)
    simp only [mEs, List.cons_append, List.length_cons]
    rw [show i + (l.length + 1) = i + 1 + l.length by omega, this]
theorem mEs_set (ek : κ → D) (ev : ν → D) (k : κ) (v : ν) : ∀ (m : List (κ × ν)) (i j : Nat), (mEs ek ev i m).modify j (fun p => (ek k, .d (ev v), p.2.2)) = mEs ek ev i (m.set j (k, v))
  | [], i, j => by simp [mEs]
  | (a, b) :: l, i, 0 => by simp [mEs]
  | (a, b) :: l, i, j + 1 => by
    have := mEs_set ek ev k v l (i + 1) j
    simp only [mEs, List.set_cons_succ, List.modify_succ_cons, this]
theorem update_m {C : Cfg} {t kt et id : Nat} {S : St} {ek : κ → D} {ev : ν → D} {m : List (κ × ν)} {k : κ} {v : ν} (hk : keyT C t = some (kt, et)) (K : KeyOk C.P kt ek) (hm : S.H.get id = some (.map (mD ek ev m))) :
    opUpdate C t S (.map id) (ek k) (.d (ev v)) = some { S with H := S.H.set id (.map (mD ek ev (mput m k v))) } := by
  simp only [opUpdate, hk, hm, K.ok, AV.plain, Bool.and_self, if_true, mD, find_mEs K]
  unfold mput
  cases hf : mfind k m 0 with
  | none =>
    have := mEs_append ek ev k v m 0
    rw [Nat.zero_add] at this
    simp [this]
  | some r => simp [mEs_set]

theorem Has.map {B S : St} {l : List Asn} (h : Has B S l) (m : MapD) : Has B (newBlk S (.map m)) (.map S.nx m :: l) :=
  h.new _ rfl (by simp [Asn.ok, newBlk, AL.get_set])
omit [BEq κ] [LawfulBEq κ] in
theorem Has.setMap {B S : St} {l : List Asn} (h : Has B S l) {i id : Nat} {m m' : MapD} (hi : l[i]? = some (.map id m)) : Has B { S with H := S.H.set id (.map m') } (l.set i (.map id m')) := by
  have hid := h.at hi
  refine h.set hi rfl (by simp [Asn.ok, AL.get_set]) (fun j hl => ?_) (fun j hj => ?_) (fun j hj => rfl) rfl
  · refine h.wf j ?_
    unfold live cur at hl ⊢
    simp only [AL.get_set] at hl
    by_cases hij : id = j
    · subst hij; rw [show S.H.get id = _ from hid]; simp
    · rw [if_neg hij] at hl; exact hl
  · simp only [Asn.fp, List.mem_singleton] at hj
    simp only [AL.get_set]
    rw [if_neg (fun q => hj q.symm)]
end
section
variable {κ ν : Type} [BEq κ] [LawfulBEq κ] {R : ObjR} {C : Cfg} {nt : Nat} {ops : Array Oper} {rest : List Oper} {e : Env} {B S S' : St} {Q : Stp → Prop} {l l' : List Asn} {t ty : Nat} {p : String} {af : Array Edge} {g : Option (Nat × Bool)} {x y w : Operand} {ρ : Operand → Option AV} {ek : κ → D} {ev : ν → D} {m : List (κ × ν)} {k : κ} {v z : ν}
theorem wpO.makeMap {t1 kt et : Nat} (ek : κ → D) (ev : ν → D) (H : Has B S l) (hw : wantedE ops e { dst := some t, op := .makeMap t1 none, type := ty, pos := p, after := af, guard := g } = some true) (hk : keyT C t1 = some (kt, et)) (ht : Nat.blt t nt = true)
    (k : ∀ b S', Has B S' (.map b (mD ek ev []) :: l) → wpO R C nt ops rest ((t, .map b) :: e) S' Q) :
    wpO R C nt ops ({ dst := some t, op := .makeMap t1 none, type := ty, pos := p, after := af, guard := g } :: rest) e S Q :=
  wpO.val hw (v := .map S.nx) (S' := newBlk S (.map (mD ek ev []))) (by simp only [oper, hk, H.no_has, cond_false]; rfl) ht (k _ _ (H.map _))
theorem wpO.mapUpdate {t1 kt et id i : Nat} (H : Has B S l) (hw : wantedE ops e { dst := none, op := .mapUpdate t1 x y w, type := ty, pos := p, after := af, guard := g } = some true) (hi : l[i]? = some (.map id (mD ek ev m))) (hm : evalO e x = some (.map id)) (hky : evalO e y = some (.d (ek k))) (hv : evalO e w = some (.d (ev v))) (hk : keyT C t1 = some (kt, et)) (K : KeyOk C.P kt ek)
    (kk : ∀ S', Has B S' (l.set i (.map id (mD ek ev (mput m k v)))) → wpO R C nt ops rest e S' Q) :
    wpO R C nt ops ({ dst := none, op := .mapUpdate t1 x y w, type := ty, pos := p, after := af, guard := g } :: rest) e S Q :=
  wpO.skip hw (by simp only [oper, hm, hky, hv, update_m hk K (H.at hi), Option.map_some]) (kk _ (H.setMap hi))
end
end
end Go.Ev


namespace Go.Ev
noncomputable section
set_option linter.unusedVariables false
set_option linter.unusedSimpArgs false

/-! ### A region that draws its order, over any base order -/
/-- k stands ahead of i: it must, or the two may change places. -/
def Compat (ops : Array Oper) (K : Nat → Nat) (k i : Nat) : Prop :=
  ((Region.before ops).getD i 0).testBit k = true ∨ ((∀ x o, ops[k]? = some x → ops[i]? = some o → x.apart ops o = true) ∧ okK (K k) (K i) = true)

theorem Compat.lt {ops : Array Oper} {K : Nat → Nat} (hr : regOk ops = true) {k i : Nat} (hi : i < ops.size) (h : ((Region.before ops).getD i 0).testBit k = true) : k < i := by
  rcases Nat.lt_or_ge k i with q | q
  · exact q
  · have := (regOk_spec hr (show ops[i]? = some ops[i] by simp [hi])).2.2 k q
    rw [this] at h; cases h

theorem rest_eq {L l1 l2 : List Nat} {listed : Array Bool} {i : Nat} (hlt' : i < listed.size) (hsp : (L.filter fun i => !listed.getD i false) = l1 ++ i :: l2) (hne1 : ∀ k ∈ l1, k ≠ i) (hne2 : ∀ k ∈ l2, k ≠ i) :
    L.filter (fun j => !(listed.setIfInBounds i true).getD j false) = l1 ++ l2 := by
  have : (fun j => !(listed.setIfInBounds i true).getD j false) = (fun j => (!listed.getD j false) && decide (j ≠ i)) := by
    funext j
    by_cases hj : i = j
    · subst hj; simp [hlt']
    · rw [getD_set_ne false hj]; simp [Ne.symm hj]
  rw [this, ← List.filter_filter]
  have hcomm : ∀ (l : List Nat) (p q : Nat → Bool), (l.filter p).filter q = (l.filter q).filter p := fun l p q => by
    rw [List.filter_filter, List.filter_filter]; congr 1; funext a; exact Bool.and_comm _ _
  rw [hcomm, hsp, List.filter_append, List.filter_cons]
  simp only [ne_eq, not_true_eq_false, decide_false, Bool.false_eq_true, if_false]
  congr 1
  · rw [List.filter_eq_self]; intro k hk; simpa using hne1 k hk
  · rw [List.filter_eq_self]; intro k hk; simpa using hne2 k hk

theorem clo_of {ops : Array Oper} (hr : regOk ops = true) {listed : Array Bool} (hcl : Closed ops listed) {i : Nat} {o : Oper} (h2 : ops[i]? = some o) (h3 : ∀ e ∈ o.after, Region.binds .any e = true → listed.getD e.on false = true) :
    ∀ k, k < i → ((Region.before ops).getD i 0).testBit k = true → listed.getD k false = true := by
  intro k hk hb
  obtain ⟨r1, r2, _⟩ := regOk_spec hr h2
  have hlt : i < ops.size := (Array.getElem?_eq_some_iff.1 h2).1
  have hkx : ∃ x, ops[k]? = some x := ⟨ops[k], by simp [show k < ops.size by omega]⟩
  obtain ⟨x, hx⟩ := hkx
  have := r2 k x hk hx
  rw [if_pos hb] at this
  obtain ⟨ed, he, hbnd, hor⟩ := this
  rcases hor with q | q
  · rw [← q]; exact h3 ed he hbnd
  · by_cases hke : k < ed.on
    · exact hcl ed.on (h3 ed he hbnd) k hke q
    · rcases Nat.lt_or_ge ed.on k with q1 | q1
      · exfalso
        have hel : ed.on < ops.size := by have := r1 ed he hbnd; omega
        have := (regOk_spec hr (show ops[ed.on]? = some ops[ed.on] by simp [hel])).2.2 k (by omega)
        rw [this] at q; cases q
      · have : k = ed.on := by omega
        rw [this]; exact h3 ed he hbnd

theorem closed_set {ops : Array Oper} {listed : Array Bool} (hcl : Closed ops listed) {i : Nat} (hclo : ∀ k, k < i → ((Region.before ops).getD i 0).testBit k = true → listed.getD k false = true) : Closed ops (listed.setIfInBounds i true) := by
  intro j hj k hkj hb
  by_cases hij : i = j
  · subst hij
    exact getD_set_true (hclo k hkj hb)
  · rw [getD_set_ne false hij] at hj
    exact getD_set_true (hcl j hj k hkj hb)

theorem some_ready {ops : Array Oper} (hr : regOk ops = true) {listed : Array Bool} (hsz : listed.size = ops.size) {m : Nat} (m1 : m < ops.size) (m2 : listed.getD m false = false) : Region.ready .any ops listed ≠ [] := by
  have hex : ∃ m, m < ops.size ∧ listed.getD m false = false ∧ ∀ k, k < m → listed.getD k false = true := by
    induction m using Nat.strongRecOn with
    | _ m ihm =>
      by_cases hall : ∀ k, k < m → listed.getD k false = true
      · exact ⟨m, m1, m2, hall⟩
      · have : ∃ k, k < m ∧ listed.getD k false = false := by
          refine Classical.byContradiction fun hc => hall fun k hk => ?_
          cases hv : listed.getD k false with
          | true => rfl
          | false => exact absurd ⟨k, hk, hv⟩ hc
        obtain ⟨k, hk, hv⟩ := this
        exact ihm k hk (by omega) hv
  obtain ⟨m, hmlt, hm2, hmin⟩ := hex
  have hmo : ops[m]? = some ops[m] := by simp [hmlt]
  have hready : m ∈ Region.ready .any ops listed := by
    rw [mem_ready]
    refine ⟨by have : m < listed.size := by omega
               simp [this] at hm2 ⊢; exact hm2, ops[m], hmo, fun ed he hb => ?_⟩
    have hon := (regOk_spec hr hmo).1 ed he hb
    exact hmin ed.on hon
  intro hnone
  rw [hnone] at hready
  cases hready

end
end Go.Ev


namespace Go.Ev
noncomputable section
set_option linter.unusedVariables false
set_option linter.unusedSimpArgs false
variable {R : ObjR} {C : Cfg} {nt : Nat}

section
variable {B : St} {T : List Fact} {ops : Array Oper} {rest : List (Nat × Oper)} {I K : List Nat} {e : Env} {S S' : St} {Q : Env → St → Prop} {l l' : List Asn} {t ty i : Nat} {p : String} {af : Array Edge} {g : Option (Nat × Bool)} {v : AV} {x y : Operand}
end
end
end Go.Ev


namespace Go.Ev
noncomputable section
set_option linter.unusedVariables false
set_option linter.unusedSimpArgs false
variable {R : ObjR} {C : Cfg} {P : Program} {nt : Nat} {B : St}

/-! ### A row that nobody writes any more -/
inductive FrzA (v : AV) (d : D) : AV → AV → Prop
  | same (x : AV) : FrzA v d x x
  | it : FrzA v d v (.d d)
inductive FrzL (v : AV) (d : D) : List AV → List AV → Prop
  | nil : FrzL v d [] []
  | cons {x y : AV} {xs ys : List AV} (h : FrzA v d x y) (k : FrzL v d xs ys) : FrzL v d (x :: xs) (y :: ys)
theorem FrzL.len {v : AV} {d : D} {xs ys : List AV} (h : FrzL v d xs ys) : ys.length = xs.length := by
  induction h with
  | nil => rfl
  | cons _ _ ih => simp [ih]
theorem FrzL.get {v : AV} {d : D} {xs ys : List AV} (h : FrzL v d xs ys) : ∀ {i : Nat} {y : AV}, ys[i]? = some y → ∃ x, xs[i]? = some x ∧ FrzA v d x y := by
  induction h with
  | nil => intro i y h; simp at h
  | cons h k ih =>
    intro i y hy
    cases i with
    | zero => simp at hy; subst hy; exact ⟨_, rfl, h⟩
    | succ i => simpa using ih (by simpa using hy)
theorem FrzL.refl (v : AV) (d : D) : ∀ (l : List AV), FrzL v d l l
  | [] => .nil
  | x :: l => .cons (.same x) (.refl v d l)
def FrzB (v : AV) (d : D) (b b' : Blk) : Prop := b' = b ∨ ∃ g cs cs', b = .cells g cs ∧ b' = .cells g cs' ∧ FrzL v d cs cs'

theorem oneCell_cells {v : Value} (h : v.oneCell' = true) : v.cells.toList = [v] ∧ vAgg v = false := by
  cases v <;> simp_all [Value.oneCell', Value.cells, vAgg]

/-- A piece of data whose cells are there is there. -/
theorem CRel.of_cells {w : World} {fr : Nat → Nat → Prop} {x : D} {vs : List Value} (hf : flatC x.cells = true) (hl : vs.length = x.cells.length) (ho : ∀ v ∈ vs, v.oneCell' = true)
    (h : ∀ (i : Nat) (c : D) (v : Value), x.cells[i]? = some c → vs[i]? = some v → CRel w fr c [v]) : CRel w fr x vs := by
  have one : ∀ (x : D), x.cells = [x] → (vs.length = x.cells.length) → (∀ (i : Nat) (c : D) (v : Value), x.cells[i]? = some c → vs[i]? = some v → CRel w fr c [v]) → CRel w fr x vs := fun x hx hl h => by
    rw [hx] at hl h
    match vs, hl with
    | [v], _ => exact h 0 x v rfl rfl
  cases x with
  | agg ys =>
    simp only [D.cells] at hl h hf
    refine .agg ys vs hl ho (fun y hy => ?_) h
    clear hl h
    induction ys with
    | nil => cases hy
    | cons z ys ih =>
      simp only [flatC, Bool.and_eq_true, Bool.not_eq_true'] at hf
      rcases List.mem_cons.1 hy with rfl | hy
      · exact hf.1
      · exact ih hf.2 hy
  | _ => exact one _ rfl hl h

theorem flat_get {xs : List D} {sz : Nat} (hsz : ∀ x ∈ xs, x.cells.length = sz) : ∀ {i j : Nat} {x c : D}, xs[i]? = some x → x.cells[j]? = some c → ((xs.map D.cells).flatten)[i * sz + j]? = some c := by
  induction xs with
  | nil => intro i j x c hx; simp at hx
  | cons y xs ih =>
    intro i j x c hx hc
    have hy := hsz y List.mem_cons_self
    rw [List.map_cons, List.flatten_cons]
    cases i with
    | zero =>
      simp at hx; subst hx
      rw [Nat.zero_mul, Nat.zero_add, List.getElem?_append_left (List.getElem?_eq_some_iff.1 hc).1]; exact hc
    | succ i =>
      have := ih (fun x hx => hsz x (List.mem_cons_of_mem _ hx)) (i := i) (by simpa using hx) hc
      rw [Nat.add_mul, Nat.one_mul, List.getElem?_append_right (by omega)]
      rw [show i * sz + sz + j - y.cells.length = i * sz + j by omega]; exact this
theorem flat_len {xs : List D} {sz : Nat} (hsz : ∀ x ∈ xs, x.cells.length = sz) : ((xs.map D.cells).flatten).length = xs.length * sz := by
  induction xs with
  | nil => simp
  | cons y xs ih =>
    rw [List.map_cons, List.flatten_cons, List.length_append, ih (fun x hx => hsz x (List.mem_cons_of_mem _ hx)), hsz y List.mem_cons_self, List.length_cons, Nat.add_mul, Nat.one_mul]; omega

/-- The row that is let be. -/
theorem row_data {cx : Cx} {S : St} {w : World} (h : SRel R cx S w) {id g sz : Nat} {xs : List D} {cs0 : List AV} (hcs0 : LessL ((xs.map D.cells).flatten.map .d) cs0) (hid : S.H.get id = some (.cells g cs0)) (hpos : 0 < sz) (hsz : ∀ x ∈ xs, x.cells.length = sz ∧ flatC x.cells = true)
    {fr' : Nat → Nat → Prop} (hp : ∀ (b o : Nat) (v : Value), ¬ cx.fr b o → w.cell? ⟨b, o, none⟩ = some v → w.cell? ⟨b, o, none⟩ = some v ∧ ¬ fr' b o) (hfr : ∀ o, ¬ fr' (cx.bm id) o) {u : Value} (hu : ARel cx S w (.msl id g 0 xs.length xs.length sz) u) : DRel w fr' (.sl xs false) u := by
  cases hu with
  | msl _ _ _ _ _ _ b cap hn hl hcap h63 hq =>
    obtain ⟨hb, _, _⟩ := hq (by unfold cur; rw [hid])
    subst hb
    obtain ⟨c1, c2, arr, el, c3, ⟨c4, c5, c6⟩, c7⟩ := h.cells id g _ hid
    refine ⟨?_, rfl⟩
    by_cases hne : xs = []
    · subst hne; exact .sl0 _ cap false (fun q => by cases q)
    have hflat := flat_len (fun x hx => (hsz x hx).1)
    let vs : Nat → List Value := fun i => (List.range sz).map fun j => (arr[i * sz + j]?).getD default
    have hcell : ∀ (i j : Nat) (x : D), xs[i]? = some x → j < sz → ∃ c v, x.cells[j]? = some c ∧ arr[i * sz + j]? = some v ∧ ARel cx S w (.d c) v ∧ v.oneCell' = true := fun i j x hx hj => by
      have hxl := (hsz x (List.mem_of_getElem? hx)).1
      have hc : x.cells[j]? = some x.cells[j] := List.getElem?_eq_getElem (by omega)
      have hfg := flat_get (fun x hx => (hsz x hx).1) hx hc
      have hlt : i * sz + j < cs0.length := by
        have := (List.getElem?_eq_some_iff.1 hfg).1
        have h2 := hcs0.len
        rw [List.length_map] at h2; omega
      obtain ⟨v, v1, v2, v3⟩ := c7 (i * sz + j) _ (List.getElem?_eq_getElem hlt)
      exact ⟨_, v, hc, v1, hcs0.get (by rw [List.getElem?_map, hfg]; rfl) (List.getElem?_eq_getElem hlt) _ _ _ _ v2, v3⟩
    have hvs : ∀ (i j : Nat) (v : Value), (vs i)[j]? = some v → j < sz ∧ (arr[i * sz + j]?).getD default = v := fun i j v hv => by
      simp only [vs, List.getElem?_map, Option.map_eq_some_iff] at hv
      obtain ⟨k, hk, rfl⟩ := hv
      rw [List.getElem?_eq_some_iff] at hk
      obtain ⟨hlt, hk⟩ := hk
      simp at hlt hk
      subst hk
      exact ⟨hlt, rfl⟩
    refine .sl xs false (cx.bm id) 0 cap sz vs hne hcap (fun q => by cases q) (fun i x hx => (hsz x (List.mem_of_getElem? hx)).1) (fun i hi => by simp [vs]) (fun i x hx => ?_) (fun i j v hi hv => ?_)
    · have hm := hsz x (List.mem_of_getElem? hx)
      refine CRel.of_cells hm.2 (by simp [vs, hm.1]) (fun v hv => ?_) (fun j c v hc hv => ?_)
      · obtain ⟨j, hj, rfl⟩ := List.getElem_of_mem hv
        have hj' := List.getElem?_eq_getElem hj
        obtain ⟨k1, k2⟩ := hvs i j _ hj'
        obtain ⟨c, v, _, v1, _, v3⟩ := hcell i j x hx k1
        rw [v1] at k2
        rw [← k2]; exact v3
      · obtain ⟨k1, k2⟩ := hvs i j v hv
        obtain ⟨c', v', h1, v1, v2, v3⟩ := hcell i j x hx k1
        rw [v1] at k2
        simp at k2
        subst k2
        rw [hc] at h1; cases h1
        have := (v2.dd.mono hp).1
        rw [(oneCell_cells v3).1] at this
        exact this
    · obtain ⟨k1, k2⟩ := hvs i j v hv
      obtain ⟨c', v', h1, v1, v2, v3⟩ := hcell i j xs[i] (List.getElem?_eq_getElem hi) k1
      rw [v1] at k2
      simp at k2
      subst k2
      refine ⟨?_, hfr _⟩
      simp only [World.cell?, c3, Nat.zero_add]
      simp [v1]

theorem freeze_sound (hR : ObjOk R) {cx : Cx} {S S' : St} {w : World} (h : SRel R cx S w) {id g sz : Nat} {xs : List D} {cs0 : List AV} (hcs0 : LessL ((xs.map D.cells).flatten.map .d) cs0) (hid : S.H.get id = some (.cells g cs0)) (hpos : 0 < sz) (hsz : ∀ x ∈ xs, x.cells.length = sz ∧ flatC x.cells = true)
    (nx : S'.nx = S.nx) (hT : S'.T = S.T) (hH : ∀ k b', S'.H.get k = some b' → k ≠ id ∧ ∃ b, S.H.get k = some b ∧ FrzB (.msl id g 0 xs.length xs.length sz) (.sl xs false) b b') :
    ∃ cx', SRel R cx' S' w ∧ Ext cx S w cx' S' w ∧ ∀ u, ARel cx S w (.msl id g 0 xs.length xs.length sz) u → ARel cx' S' w (.d (.sl xs false)) u := by
  have hl : live S id := live_H hid
  have ownId : ∀ k b, live S k → cx.fp k b → b = cx.bm id → k = id := fun k b hk hf hb => by
    subst hb
    exact h.sep k id _ hk hl hf ((h.cells id g _ hid).fp _ |>.2 rfl)
  have hcur : ∀ k g', cur S' k = some g' → cur S k = some g' := fun k g' hc => by
    unfold cur at hc ⊢
    cases hk : S'.H.get k with
    | none =>
      rw [hk] at hc
      simp only [hT] at hc
      cases hS : S.H.get k with
      | none => exact hc
      | some b => rw [h.dis k b hS] at hc; cases hc
    | some b' =>
      rw [hk] at hc
      obtain ⟨_, b, hb, hz⟩ := hH k b' hk
      rw [hb]
      rcases hz with rfl | ⟨g1, cs, cs', rfl, rfl, _⟩
      · cases b' <;> exact hc
      · exact hc
  have hlive : ∀ k, live S' k → live S k := fun k hk => by
    cases hc : cur S' k with
    | none => exact absurd hc hk
    | some g' => unfold live; rw [hcur k g' hc]; simp
  have hno : ¬ live S' id := fun q => by
    cases hc : S'.H.get id with
    | some b' => exact (hH id b' hc).1 rfl
    | none =>
      unfold live cur at q
      rw [hc, hT, h.dis id _ hid] at q
      exact q rfl
  have hit : ∀ k g', isIt S' k g' → isIt S k g' := fun k g' q => by
    obtain ⟨_, b, hb, hz⟩ := hH k _ q
    rcases hz with hz | ⟨g1, cs, cs', _, hz, _⟩
    · rw [← hz] at hb; exact hb
    · cases hz
  let cx' : Cx := { cx with fr := fun b o => cx.fr b o ∧ b ≠ cx.bm id }
  have prot : ∀ (b o : Nat) (v : Value), ¬ cx.fr b o → w.cell? ⟨b, o, none⟩ = some v → w.cell? ⟨b, o, none⟩ = some v ∧ ¬ cx'.fr b o := fun b o v h1 h2 => ⟨h2, fun q => h1 q.1⟩
  have ext : Ext cx S w cx' S' w := by
    refine ⟨Nat.le_refl _, rfl, rfl, rfl, by rw [nx]; exact Nat.le_refl _, prot, fun b hb hn => ⟨rfl, fun o => ⟨fun q => q.1, fun q => ⟨q, fun hq => ?_⟩⟩⟩, fun k b hk hf => ⟨fun _ => ⟨hlive k hk, .inl hf⟩, fun hge => ?_⟩, fun k g' _ q => ⟨g', hit k g' q⟩, fun k g' b _ _ _ hf => hf, fun k g' _ hc => ⟨g', hcur k g' hc, Nat.le_refl _, fun _ => ⟨rfl, rfl, rfl⟩⟩⟩
    · subst hq
      exact notIt hid (by intro x; simp) (hn id hl ((h.cells id g _ hid).fp _ |>.2 rfl))
    · exact absurd (h.wf k (hlive k hk)) (by omega)
  have key : ∀ u, ARel cx S w (.msl id g 0 xs.length xs.length sz) u → ARel cx' S' w (.d (.sl xs false)) u := fun u hu =>
    .d _ _ (row_data h hcs0 hid hpos hsz prot (fun o q => q.2 rfl) hu)
  refine ⟨cx', ⟨fun k hk => by rw [nx]; exact h.wf k (hlive k hk), fun k b' hk => ?_, fun k g' cs' hk => ?_, fun k es hk => ?_, fun k q x hk => ?_, fun k en hk => ?_, fun k k' b a1 a2 => h.sep k k' b (hlive k a1) (hlive k' a2), fun b o q => h.lt b o q.1, hR.stat _ _ _ _ h.stat prot⟩, ext, key⟩
  · obtain ⟨_, b, hb, _⟩ := hH k b' hk
    rw [hT]; exact h.dis k b hb
  · obtain ⟨hne', b, hb, hz⟩ := hH k _ hk
    have hex : ∃ cs, b = .cells g' cs ∧ FrzL (.msl id g 0 xs.length xs.length sz) (.sl xs false) cs cs' := by
      rcases hz with hz | ⟨g1, cs, cs2, h1, h2, h3⟩
      · exact ⟨cs', hz.symm, .refl _ _ _⟩
      · cases h2; exact ⟨cs, h1, h3⟩
    obtain ⟨cs, rfl, hfz⟩ := hex
    obtain ⟨c1, c2, arr, el, c3, ⟨c4, c5, c6⟩, c7⟩ := h.cells k g' cs hb
    have hlk : live S k := live_H hb
    refine ⟨c1, fun o => ⟨c2 o, fun hq => hne' (ownId k _ hlk ((c1 _).2 rfl) hq)⟩, arr, el, c3, ⟨c4, by rw [hfz.len]; exact c5, by rw [hfz.len]; exact c6⟩, fun i x hx => ?_⟩
    obtain ⟨y, hy, hfa⟩ := hfz.get hx
    obtain ⟨v, v1, v2, v3⟩ := c7 i y hy
    refine ⟨v, v1, ?_, v3⟩
    cases hfa with
    | same => exact v2.mono ext
    | it => exact key v v2
  · obtain ⟨hne', b, hb, hz⟩ := hH k _ hk
    have hb' : b = .map es := by
      rcases hz with hz | ⟨g1, cs, cs2, h1, h2, h3⟩
      · exact hz.symm
      · cases h2
    subst hb'
    obtain ⟨c1, c2, ms, clk, c3, c4, c5⟩ := h.maps k es hb
    refine ⟨c1, fun o => ⟨c2 o, fun hq => hne' (ownId k _ (live_H hb) ((c1 _).2 rfl) hq)⟩, ms, clk, c3, c4, fun i p m hp hm => ?_⟩
    obtain ⟨v1, v2⟩ := c5 i p m hp hm
    exact ⟨v1.mono prot, v2.mono ext⟩
  · obtain ⟨hne', b, hb, hz⟩ := hH k _ hk
    have hb' : b = .obj q x := by
      rcases hz with hz | ⟨g1, cs, cs2, h1, h2, h3⟩
      · exact hz.symm
      · cases h2
    subst hb'
    obtain ⟨c1, c2⟩ := h.objs k q x hb
    exact ⟨c1, fun b o hf => ⟨c2 b o hf, fun hq => hne' (ownId k b (live_H hb) hf hq)⟩⟩
  · rw [hT] at hk
    obtain ⟨c1, c2, c3⟩ := h.toks k en hk
    have hkid : k ≠ id := fun q => by subst q; rw [h.dis _ _ hid] at hk; cases hk
    exact ⟨c1, fun o ho => ⟨c2 o ho, fun hq => hkid (ownId k _ (live_T hk) ((c1 _).2 rfl) hq)⟩, c3⟩

/-! ### .. among what one has -/
inductive FrzN (v : AV) (d : D) : List Asn → List Asn → Prop
  | nil : FrzN v d [] []
  | same {a : Asn} {l l' : List Asn} (k : FrzN v d l l') : FrzN v d (a :: l) (a :: l')
  | box {id : Nat} {cs cs' : List AV} {l l' : List Asn} (h : FrzL v d cs cs') (k : FrzN v d l l') : FrzN v d (.box id cs :: l) (.box id cs' :: l')
theorem FrzN.refl (v : AV) (d : D) : ∀ (l : List Asn), FrzN v d l l
  | [] => .nil
  | a :: l => .same (.refl v d l)
theorem FrzN.fps {v : AV} {d : D} {l l' : List Asn} (h : FrzN v d l l') : l'.map Asn.fp = l.map Asn.fp := by
  induction h with
  | nil => rfl
  | same _ ih => simp [ih]
  | box _ _ ih => simp [ih, Asn.fp]
theorem FrzN.mem {v : AV} {d : D} {l l' : List Asn} (h : FrzN v d l l') {a' : Asn} (ha : a' ∈ l') : a' ∈ l ∨ ∃ id cs cs', a' = .box id cs' ∧ .box id cs ∈ l ∧ FrzL v d cs cs' := by
  induction h with
  | nil => cases ha
  | same _ ih =>
    rcases List.mem_cons.1 ha with rfl | ha
    · exact .inl List.mem_cons_self
    · rcases ih ha with h | ⟨id, cs, cs', h1, h2, h3⟩
      · exact .inl (List.mem_cons_of_mem _ h)
      · exact .inr ⟨id, cs, cs', h1, List.mem_cons_of_mem _ h2, h3⟩
  | box hz _ ih =>
    rcases List.mem_cons.1 ha with rfl | ha
    · exact .inr ⟨_, _, _, rfl, List.mem_cons_self, hz⟩
    · rcases ih ha with h | ⟨id, cs, cs', h1, h2, h3⟩
      · exact .inl (List.mem_cons_of_mem _ h)
      · exact .inr ⟨id, cs, cs', h1, List.mem_cons_of_mem _ h2, h3⟩
theorem FrzN.box_of {v : AV} {d : D} {l l' : List Asn} (h : FrzN v d l l') {id : Nat} {cs' : List AV} (ha : Asn.box id cs' ∈ l') : ∃ cs, .box id cs ∈ l ∧ FrzL v d cs cs' := by
  rcases h.mem ha with h | ⟨id2, cs, cs2, h1, h2, h3⟩
  · exact ⟨cs', h, .refl _ _ _⟩
  · cases h1; exact ⟨cs, h2, h3⟩

open Classical in
/-- The memory with what the boxes hold now. -/
def newB (l : List Asn) (k : Nat) (b : Blk) : Blk := if h : ∃ cs, Asn.box k cs ∈ l then .cells 0 (Classical.choose h) else b
def AL.mapV {α : Type} (f : Nat → α → α) : AL α → AL α
  | [] => []
  | (k, v) :: l => (k, f k v) :: AL.mapV f l
theorem AL.get_mapV {α : Type} (f : Nat → α → α) : ∀ (l : AL α) (k : Nat), AL.get (AL.mapV f l) k = (AL.get l k).map (f k)
  | [], k => by simp [AL.mapV, AL.get]
  | (a, v) :: l, k => by
    simp only [AL.mapV, AL.get_cons, AL.get_mapV f l k]
    by_cases h : a = k
    · subst h; simp
    · simp [h]

theorem fp_uniq {l : List Asn} (hn : (l.map Asn.fp).flatten.Nodup) {a b : Asn} (ha : a ∈ l) (hb : b ∈ l) {id : Nat} (h1 : id ∈ a.fp) (h2 : id ∈ b.fp) : a = b := by
  obtain ⟨i, hi, rfl⟩ := List.getElem_of_mem ha
  obtain ⟨j, hj, rfl⟩ := List.getElem_of_mem hb
  by_cases hij : i = j
  · subst hij; rfl
  · exact (fp_out hn (List.getElem?_eq_getElem hi) (List.getElem?_eq_getElem hj) hij h1 h2).elim

theorem newB_box {l : List Asn} (hn : (l.map Asn.fp).flatten.Nodup) {k : Nat} {cs : List AV} (h : Asn.box k cs ∈ l) (b : Blk) : newB l k b = .cells 0 cs := by
  have hex : ∃ cs, Asn.box k cs ∈ l := ⟨cs, h⟩
  unfold newB
  rw [dif_pos hex]
  have := fp_uniq hn (Classical.choose_spec hex) h (id := k) (by simp [Asn.fp]) (by simp [Asn.fp])
  simp only [Asn.box.injEq, true_and] at this
  rw [this]
theorem newB_no {l : List Asn} {k : Nat} (h : ∀ cs, Asn.box k cs ∉ l) (b : Blk) : newB l k b = b := by
  unfold newB
  rw [dif_neg (fun ⟨cs, q⟩ => h cs q)]

/-- Slots in which the row is plain data, now. -/
def FrzE (v : AV) (d : D) (e2 e : Env) : Prop := ∀ t x, AL.get e2 t = some x → ∃ y, AL.get e t = some y ∧ (Less x y ∨ (y = v ∧ x = .d d))
theorem FrzE.nil {v : AV} {d : D} {e : Env} : FrzE v d [] e := fun _ _ h => by simp [AL.get] at h
theorem FrzE.cons {v : AV} {d : D} {t : Nat} {x y : AV} {e2 e : Env} (h : AL.get e t = some y) (hl : Less x y) (k : FrzE v d e2 e) : FrzE v d ((t, x) :: e2) e := fun u z hz => by
  rw [AL.get_cons] at hz
  by_cases hu : t = u
  · subst hu; rw [if_pos rfl] at hz; cases hz; exact ⟨y, h, .inl hl⟩
  · rw [if_neg hu] at hz; exact k u z hz
theorem FrzE.it {v : AV} {d : D} {t : Nat} {e2 e : Env} (h : AL.get e t = some v) (k : FrzE v d e2 e) : FrzE v d ((t, .d d) :: e2) e := fun u z hz => by
  rw [AL.get_cons] at hz
  by_cases hu : t = u
  · subst hu; rw [if_pos rfl] at hz; cases hz; exact ⟨v, h, .inr ⟨rfl, rfl⟩⟩
  · rw [if_neg hu] at hz; exact k u z hz

theorem Asn.ok_new {S S' : St} {v : AV} {d : D} {l l' : List Asn} (hz : FrzN v d l l') (nd' : (l'.map Asn.fp).flatten.Nodup) (hok : ∀ a ∈ l, a.ok S)
    (hH : ∀ a ∈ l', ∀ k ∈ a.fp, S'.H.get k = (S.H.get k).map (newB l' k)) (hT : S'.T = S.T) : ∀ a ∈ l', a.ok S' := by
  intro a' ha'
  cases a' with
  | box k cs' =>
    obtain ⟨cs, h1, h2⟩ := hz.box_of ha'
    have := hok _ h1
    simp only [Asn.ok] at this ⊢
    rw [hH _ ha' k (by simp [Asn.fp]), this, Option.map_some, newB_box nd' ha']
  | _ =>
    have hm : _ ∈ l := (hz.mem ha').resolve_right (fun ⟨_, _, _, q, _⟩ => by cases q)
    refine Asn.keep (hok _ hm) (fun k hk => ?_) (fun k hk => by rw [hT])
    rw [hH _ ha' k hk]
    cases hb : S.H.get k with
    | none => rfl
    | some b =>
      rw [Option.map_some, newB_no (fun cs q => ?_)]
      have := fp_uniq nd' ha' q (id := k) hk (by simp [Asn.fp])
      cases this

/-- A row is plain data, now. -/
theorem Has.freeze (hR : ObjOk R) {S : St} {l l' : List Asn} (H : Has B S l) {i sz : Nat} {v : AV} {xs : List D} (hi : l[i]? = some (.row sz v xs)) (hz : FrzN v (.sl xs false) (l.eraseIdx i) l') :
    ∃ S', Has B S' l' ∧ ∀ nt e e2, FrzE v (.sl xs false) e2 e → Ghost R nt e S e2 S' := by
  have hg := H.at hi
  have hil : i < l.length := (List.getElem?_eq_some_iff.1 hi).1
  have hsub : (l.eraseIdx i).Sublist l := List.eraseIdx_sublist ..
  have nd' : (l'.map Asn.fp).flatten.Nodup := by rw [hz.fps]; exact H.nd.sublist (sub_flat Asn.fp hsub)
  have hfp' : ∀ a' ∈ l', ∃ a ∈ l.eraseIdx i, a.fp = a'.fp := fun a' ha' => by
    rcases hz.mem ha' with h | ⟨id, cs, cs', rfl, h2, _⟩
    · exact ⟨a', h, rfl⟩
    · exact ⟨_, h2, rfl⟩
  have hfpl : ∀ a' ∈ l', ∃ a ∈ l, a.fp = a'.fp := fun a' ha' => let ⟨a, h1, h2⟩ := hfp' a' ha'; ⟨a, hsub.subset h1, h2⟩
  have hout : ∀ a ∈ l', ∀ id ∈ a.fp, B.H.get id = none ∧ B.T.get id = none := fun a' ha' id hid => by
    obtain ⟨a, h1, h2⟩ := hfpl a' ha'
    exact H.out a h1 id (by rw [h2]; exact hid)
  simp only [Asn.ok] at hg
  -- where the row has no memory
  have plain : xs = [] → (∃ b, (v = .d .nils ∧ b = true) ∨ (v = .d (.sl [] true) ∧ b = true)) → ∃ S', Has B S' l' ∧ ∀ nt e e2, FrzE v (.sl xs false) e2 e → Ghost R nt e S e2 S' := fun hx hv => by
    subst hx
    have hless : Less (.d (.sl [] false)) v := by
      obtain ⟨b, ⟨rfl, _⟩ | ⟨rfl, _⟩⟩ := hv
      · exact nilL
      · exact slL'
    have hF : ∀ {cs cs' : List AV}, FrzL v (.sl [] false) cs cs' → LessL cs' cs := fun h => by
      induction h with
      | nil => exact .nil
      | cons h k ih =>
        refine .cons ?_ ih
        cases h with
        | same => exact .refl _
        | it => exact hless
    let S' : St := { S with H := AL.mapV (newB l') S.H }
    have hget : ∀ k, S'.H.get k = (S.H.get k).map (newB l' k) := fun k => AL.get_mapV _ _ _
    have ws : WeakS S' S := by
      refine ⟨rfl, fun _ => rfl, fun k => ?_⟩
      rw [hget]
      cases hb : S.H.get k with
      | none => exact BlkLess.refl _
      | some b =>
        rw [Option.map_some]
        by_cases hk : ∃ cs', Asn.box k cs' ∈ l'
        · obtain ⟨cs', hk⟩ := hk
          obtain ⟨cs, h1, h2⟩ := hz.box_of hk
          have := H.ok _ (hsub.subset h1)
          simp only [Asn.ok] at this
          rw [hb] at this; cases this
          rw [newB_box nd' hk]
          exact ⟨rfl, hF h2⟩
        · rw [newB_no (fun cs q => hk ⟨cs, q⟩)]; exact BlkLess.refl _
    refine ⟨S', ⟨fun k hk => H.wf k (ws.live.1 hk), Asn.ok_new hz nd' (fun a ha => H.ok a (hsub.subset ha)) (fun a ha k hk => hget k) rfl, nd', H.bwf, ⟨H.keeps.nx, fun k b hb => ?_, H.keeps.T⟩, hout⟩, fun nt e e2 he cx w a h1 h2 => ?_⟩
    · rw [hget, H.keeps.H k b hb, Option.map_some, newB_no (fun cs q => ?_)]
      have := (hout _ q k (by simp [Asn.fp])).1
      rw [this] at hb; cases hb
    · refine ⟨cx, h1.weakS ws, Ext.weakS ws (Ext.refl w (h1.weakS ws).wf), ⟨h2.size, fun t x hx => ?_⟩⟩
      obtain ⟨y, hy, hq⟩ := he t x hx
      obtain ⟨u, u1, u2⟩ := h2.rel t y hy
      refine ⟨u, u1, ARel.weakS ws ?_⟩
      rcases hq with hq | ⟨rfl, rfl⟩
      · exact hq _ _ _ _ u2
      · exact hless _ _ _ _ u2
  split at hg
  · exact plain hg ⟨true, .inl ⟨rfl, rfl⟩⟩
  · exact plain hg ⟨true, .inr ⟨rfl, rfl⟩⟩
  · rename_i id g off len lim sz'
    obtain ⟨rfl, rfl, rfl, hszz, hpos, hsz, cs0, hcs0, hid⟩ := hg
    subst hszz
    let S' : St := { S with H := AL.mapV (newB l') (AL.del S.H id) }
    have hget : ∀ k, S'.H.get k = if id = k then none else (S.H.get k).map (newB l' k) := fun k => by
      show AL.get (AL.mapV _ _) k = _
      rw [AL.get_mapV, AL.get_del]
      by_cases hk : id = k <;> simp [hk]
    have hnot : ∀ a ∈ l', ∀ k ∈ a.fp, id ≠ k := fun a' ha' k hk hq => by
      subst hq
      obtain ⟨a, h1, h2⟩ := hfp' a' ha'
      rw [← h2] at hk
      obtain ⟨j, hj, hja⟩ := List.mem_eraseIdx_iff_getElem?.1 h1
      exact fp_out H.nd hi hja (fun q => hj q.symm) (id := id) (by simp [Asn.fp]) hk
    have hB : B.H.get id = none := (H.out _ (List.mem_of_getElem? hi) id (by simp [Asn.fp])).1
    have hlive : ∀ k, live S' k → live S k := fun k hk => by
      unfold live cur at hk ⊢
      rw [hget] at hk
      by_cases hq : id = k
      · subst hq; rw [hid]; simp
      · rw [if_neg hq] at hk
        cases hb : S.H.get k with
        | none => rw [hb] at hk; exact hk
        | some b => cases b <;> simp
    refine ⟨S', ⟨fun k hk => H.wf k (hlive k hk), Asn.ok_new hz nd' (fun a ha => H.ok a (hsub.subset ha)) (fun a ha k hk => by rw [hget, if_neg (hnot a ha k hk)]) rfl, nd', H.bwf, ⟨H.keeps.nx, fun k b hb => ?_, H.keeps.T⟩, hout⟩, fun nt e e2 he cx w a h1 h2 => ?_⟩
    · rw [hget, if_neg (fun q => by subst q; rw [hB] at hb; cases hb), H.keeps.H k b hb, Option.map_some, newB_no (fun cs q => ?_)]
      have := (hout _ q k (by simp [Asn.fp])).1
      rw [this] at hb; cases hb
    · have hA : ∀ k b', S'.H.get k = some b' → k ≠ id ∧ ∃ b, S.H.get k = some b ∧ FrzB (.msl id g 0 xs.length xs.length sz') (.sl xs false) b b' := fun k b' hb' => by
        rw [hget] at hb'
        by_cases hq : id = k
        · rw [if_pos hq] at hb'; cases hb'
        · rw [if_neg hq] at hb'
          obtain ⟨b, hb, rfl⟩ := Option.map_eq_some_iff.1 hb'
          refine ⟨fun q => hq q.symm, b, hb, ?_⟩
          by_cases hk : ∃ cs', Asn.box k cs' ∈ l'
          · obtain ⟨cs', hk⟩ := hk
            obtain ⟨cs, h3, h4⟩ := hz.box_of hk
            have := H.ok _ (hsub.subset h3)
            simp only [Asn.ok] at this
            rw [hb] at this; cases this
            rw [newB_box nd' hk]
            exact .inr ⟨0, cs, cs', rfl, rfl, h4⟩
          · rw [newB_no (fun cs q => hk ⟨cs, q⟩)]; exact .inl rfl
      obtain ⟨cx', k1, k2, k3⟩ := freeze_sound hR h1 hcs0 hid hpos hsz (S' := S') rfl rfl hA
      refine ⟨cx', k1, k2, ⟨h2.size, fun t x hx => ?_⟩⟩
      obtain ⟨y, hy, hq⟩ := he t x hx
      obtain ⟨u, u1, u2⟩ := h2.rel t y hy
      refine ⟨u, u1, ?_⟩
      rcases hq with hq | ⟨rfl, rfl⟩
      · exact (hq _ _ _ _ u2).mono k2
      · exact k3 u u2
  · exact hg.elim
end
end Go.Ev


namespace Go.Ev
noncomputable section
set_option linter.unusedVariables false
set_option linter.unusedSimpArgs false
variable {R : ObjR} {P : Program} {B : St}

/-! ### Rows: slices with a block of their own that is written in place -/
theorem LessL.drop {ys xs : List AV} (h : LessL ys xs) : ∀ n, LessL (ys.drop n) (xs.drop n) := by
  induction h with
  | nil => intro n; rw [List.drop_nil]; exact .nil
  | cons h k ih => intro n; cases n with
    | zero => exact .cons h k
    | succ n => exact ih n
theorem LessL.take {ys xs : List AV} (h : LessL ys xs) : ∀ n, LessL (ys.take n) (xs.take n) := by
  induction h with
  | nil => intro n; rw [List.take_nil]; exact .nil
  | cons h k ih => intro n; cases n with
    | zero => exact .nil
    | succ n => exact .cons h (ih n)
theorem LessL.append {a b c d : List AV} (h : LessL a b) (k : LessL c d) : LessL (a ++ c) (b ++ d) := by
  induction h with
  | nil => exact k
  | cons h _ ih => exact .cons h ih
theorem LessL.set {ys xs : List AV} (h : LessL ys xs) {y x : AV} (hl : Less y x) : ∀ n, LessL (ys.set n y) (xs.set n x) := by
  induction h with
  | nil => intro n; exact .nil
  | cons h k ih => intro n; cases n with
    | zero => exact .cons hl k
    | succ n => exact .cons h (ih n)
theorem LessL.setAt {cy cx : List AV} (hc : LessL cy cx) : ∀ {ys xs : List AV} (h : LessL ys xs) (n : Nat), LessL (setAt ys n cy) (setAt xs n cx) := by
  induction hc with
  | nil => intro ys xs h n; exact h
  | cons h k ih => intro ys xs hh n; exact ih (hh.set h n) (n + 1)
theorem arel_oneCell {cx : Cx} {S : St} {w : World} {d : D} {v : Value} (h : ARel cx S w (.d d) v) (hd : d.isAgg = false) : v.oneCell' = true ∧ v.cells.toList = [v] := by
  have h2 := h.dd.2
  have h1 := h.dd.1
  rw [hd] at h2
  cases v with
  | agg _ => cases h2
  | tuple vs =>
    generalize hcs : (Value.tuple vs).cells.toList = cs at h1
    cases h1 <;> first | (simp [Value.cells] at hcs; done) | (cases hd; done)
  | _ => exact ⟨rfl, rfl⟩

/-- Words of cells, put together. -/
theorem Less.mkAggL {ws : List AV} {ds : List D} (h : LessL (ds.map .d) ws) (hf : flatC ds = true) : Less (.d (.agg ds)) (Ev.mkAgg ws) := by
  intro cx S w v hr
  have hall : ∀ d ∈ ds, d.isAgg = false := by
    clear h
    induction ds with
    | nil => intro d hd; cases hd
    | cons z ys ih =>
      simp only [flatC, Bool.and_eq_true, Bool.not_eq_true'] at hf
      intro d hd
      rcases List.mem_cons.1 hd with rfl | hd
      · exact hf.1
      · exact ih hf.2 d hd
  have hlen : ws.length = ds.length := by have := h.len; rw [List.length_map] at this; exact this.symm
  -- what the parts are
  have core : ∀ (vs : List Value), vs.length = ws.length → (∀ u ∈ vs, u.oneCell' = true) → (∀ (i : Nat) (x : AV) (u : Value), ws[i]? = some x → vs[i]? = some u → ARel cx S w x u) → CRel w cx.fr (.agg ds) vs := fun vs hl ho hh => by
    refine .agg ds vs (by rw [hl, hlen]) ho hall (fun i d u hd hu => ?_)
    have hlt : i < ws.length := by rw [hlen]; exact (List.getElem?_eq_some_iff.1 hd).1
    have hx := List.getElem?_eq_getElem hlt
    have hd' := h.get (i := i) (by rw [List.getElem?_map, hd]; rfl) hx _ _ _ _ (hh i _ u hx hu)
    have := hd'.dd.1
    rwa [(arel_oneCell hd' (hall d (List.mem_of_getElem? hd))).2] at this
  unfold Ev.mkAgg at hr
  split at hr
  · rename_i xs hxs
    have hws : ws = xs.map .d := by
      clear hr core hlen h
      induction ws generalizing xs with
      | nil => simp [allD] at hxs; subst hxs; rfl
      | cons x l ih =>
        cases x <;> simp only [allD] at hxs <;> try (cases hxs)
        obtain ⟨ys, h1, rfl⟩ := Option.map_eq_some_iff.1 hxs
        rw [ih ys h1]; rfl
    have hd := hr.dd
    refine .d _ _ ⟨?_, hd.2⟩
    have h1 := hd.1
    generalize hcs : v.cells.toList = cs at h1 ⊢
    cases h1 with
    | agg _ _ hl ho hn hh =>
      refine core cs (by rw [hws, List.length_map]; exact hl) ho (fun i x u hx hu => ?_)
      rw [hws, List.getElem?_map, Option.map_eq_some_iff] at hx
      obtain ⟨y, hy, rfl⟩ := hx
      have := hh i y u hy hu
      have ho' := ho u (List.mem_of_getElem? hu)
      exact .d _ _ ⟨by rw [(oneCell_cells ho').1]; exact this, by rw [(oneCell_cells ho').2]; exact hn y (List.mem_of_getElem? hy)⟩
  · cases hr with
    | agg _ vs hl ho hh =>
      refine .d _ _ ⟨?_, rfl⟩
      simp only [Value.cells]
      exact core vs hl ho hh

def RowAt (v p : AV) (n off : Nat) : Prop := ∃ id g len lim sz, v = .msl id g 0 len lim sz ∧ p = .ptr id g (n * sz + off)

section
variable {C : Cfg} {ρ : Operand → Option AV} {S : St} {l : List Asn} {x y : Operand} {t : Nat} {v : AV}
theorem flatC_get {l : List D} (h : flatC l = true) : ∀ {i : Nat} {d : D}, l[i]? = some d → d.isAgg = false := by
  induction l with
  | nil => intro i d hd; simp at hd
  | cons y l ih =>
    simp only [flatC, Bool.and_eq_true, Bool.not_eq_true'] at h
    intro i d hd
    cases i with
    | zero => simp at hd; subst hd; exact h.1
    | succ i => exact ih h.2 (by simpa using hd)
theorem flatC_of {l : List D} (h : ∀ d ∈ l, d.isAgg = false) : flatC l = true := by
  induction l with
  | nil => rfl
  | cons y l ih => simp only [flatC, h y List.mem_cons_self, ih (fun d hd => h d (List.mem_cons_of_mem _ hd)), Bool.not_false, Bool.and_self]
theorem flatC_all {l : List D} (h : flatC l = true) : ∀ d ∈ l, d.isAgg = false := fun d hd => by
  obtain ⟨i, hi, rfl⟩ := List.getElem_of_mem hd
  exact flatC_get h (List.getElem?_eq_getElem hi)

theorem setAt_in {α : Type} {a b cs cv : List α} {off : Nat} (h : off + cv.length ≤ cs.length) : setAt (a ++ cs ++ b) (a.length + off) cv = a ++ setAt cs off cv ++ b := by
  induction cv generalizing cs off with
  | nil => rfl
  | cons c cv ih =>
    simp only [List.length_cons] at h
    rw [setAt, setAt]
    have e : (a ++ cs ++ b).set (a.length + off) c = a ++ cs.set off c ++ b := by
      rw [List.append_assoc, List.set_append_right _ _ (by omega), show a.length + off - a.length = off by omega, List.set_append_left _ _ (by omega), ← List.append_assoc]
    rw [e, Nat.add_assoc]
    exact ih (by rw [List.length_set]; omega)

end
end
end Go.Ev


namespace Go.Ev
noncomputable section
set_option linter.unusedVariables false
set_option linter.unusedSimpArgs false
variable {R : ObjR} {P : Program} {B : St}

section
variable {C : Cfg} {ρ : Operand → Option AV} {S : St} {l : List Asn} {x y : Operand} {t : Nat} {v : AV}
/-- A row is put in place of something that has no memory, or of itself. -/
theorem Has.same {B S : St} {l : List Asn} (H : Has B S l) {i : Nat} {a a' : Asn} (hi : l[i]? = some a) (hf : a'.fp = a.fp) (ha : a'.ok S) : Has B S (l.set i a') :=
  H.set hi hf ha H.wf (fun _ _ => rfl) (fun _ _ => rfl) rfl

theorem Has.nilR {B S : St} {l : List Asn} (H : Has B S l) (sz : Nat) : Has B S (.row sz (.d .nils) [] :: l) := H.pureG rfl rfl
theorem Has.tightR {B S : St} {l : List Asn} (H : Has B S l) (sz : Nat) : Has B S (.row sz (.d (.sl [] true)) [] :: l) := H.pureG rfl rfl

end

/-! ### What is lent -/
def Lend (R : ObjR) (S : St) (x : AV) (d : D) : Prop := ∀ cx w u, SRel R cx S w → ARel cx S w x u → DRel w (fun _ _ => False) d u
inductive LendL (R : ObjR) (S : St) : List AV → List D → Prop
  | nil : LendL R S [] []
  | cons {x : AV} {d : D} {xs : List AV} {ds : List D} (h : Lend R S x d) (k : LendL R S xs ds) : LendL R S (x :: xs) (d :: ds)
theorem LendL.len {S : St} {xs : List AV} {ds : List D} (h : LendL R S xs ds) : ds.length = xs.length := by
  induction h with
  | nil => rfl
  | cons _ _ ih => simp [ih]
theorem LendL.get {S : St} {xs : List AV} {ds : List D} (h : LendL R S xs ds) : ∀ {i : Nat} {d : D}, ds[i]? = some d → ∃ x, xs[i]? = some x ∧ Lend R S x d := by
  induction h with
  | nil => intro i d h; simp at h
  | cons h k ih =>
    intro i d hd
    cases i with
    | zero => simp at hd; subst hd; exact ⟨_, rfl, h⟩
    | succ i => simpa using ih (by simpa using hd)
theorem DRel.lend {w : World} {fr : Nat → Nat → Prop} {d : D} {u : Value} (h : DRel w fr d u) : DRel w (fun _ _ => False) d u := h.mono (fun b o v h1 h2 => ⟨h2, fun q => q⟩)
theorem Lend.less {S : St} {x : AV} {d : D} (h : Less (.d d) x) : Lend R S x d := fun cx w u h1 h2 => (h _ _ _ _ h2).dd.lend
theorem Lend.row {S : St} {l : List Asn} (H : Has B S l) {i sz : Nat} {v : AV} {xs : List D} (hi : l[i]? = some (.row sz v xs)) : Lend R S v (.sl xs false) := by
  intro cx w u h1 h2
  have hg := H.at hi
  simp only [Asn.ok] at hg
  split at hg
  · subst hg; exact (nilL _ _ _ _ h2).dd.lend
  · subst hg; exact (slL' _ _ _ _ h2).dd.lend
  · obtain ⟨rfl, rfl, rfl, rfl, hpos, hsz, cs, hcs, hid⟩ := hg
    exact row_data h1 hcs hid hpos hsz (fun b o v q1 q2 => ⟨q2, fun q => q⟩) (fun o q => q) h2
  · exact hg.elim
theorem Lend.agg {S : St} {cs : List AV} {ds : List D} (h : LendL R S cs ds) (hf : flatC ds = true) : Lend R S (Ev.mkAgg cs) (.agg ds) := by
  intro cx w u h1 h2
  have core : ∀ (vs : List Value), vs.length = cs.length → (∀ u ∈ vs, u.oneCell' = true) → (∀ (i : Nat) (x : AV) (u : Value), cs[i]? = some x → vs[i]? = some u → ARel cx S w x u) → CRel w (fun _ _ => False) (.agg ds) vs := fun vs hl ho hh => by
    refine .agg ds vs (by rw [hl, h.len]) ho (flatC_all hf) (fun i d u hd hu => ?_)
    obtain ⟨x, hx, hlx⟩ := h.get hd
    have := (hlx cx w u h1 (hh i x u hx hu)).1
    rwa [(oneCell_cells (ho u (List.mem_of_getElem? hu))).1] at this
  unfold Ev.mkAgg at h2
  split at h2
  · rename_i xs hxs
    have hws : cs = xs.map .d := by
      clear h2 core h
      induction cs generalizing xs with
      | nil => simp [allD] at hxs; subst hxs; rfl
      | cons x l ih =>
        cases x <;> simp only [allD] at hxs <;> try (cases hxs)
        obtain ⟨ys, h1, rfl⟩ := Option.map_eq_some_iff.1 hxs
        rw [ih ys h1]; rfl
    have hd := h2.dd
    refine ⟨?_, hd.2⟩
    have h1 := hd.1
    generalize hcs : u.cells.toList = cs at h1 ⊢
    cases h1 with
    | agg _ _ hl ho hn hh =>
      refine core cs (by rw [hws, List.length_map]; exact hl) ho (fun i x u hx hu => ?_)
      rw [hws, List.getElem?_map, Option.map_eq_some_iff] at hx
      obtain ⟨y, hy, rfl⟩ := hx
      have := hh i y u hy hu
      have ho' := ho u (List.mem_of_getElem? hu)
      exact .d _ _ ⟨by rw [(oneCell_cells ho').1]; exact this, by rw [(oneCell_cells ho').2]; exact hn y (List.mem_of_getElem? hy)⟩
  · cases h2 with
    | agg _ vs hl ho hh =>
      refine ⟨?_, rfl⟩
      simp only [Value.cells]
      exact core vs hl ho hh

/-- Words that name no memory. -/
def scalD : D → Bool
  | .bool _ => true
  | .int _ _ => true
  | .str _ => true
  | _ => false
def scalAV : AV → Bool
  | .d x => scalD x
  | .tup l => l.all fun x => match x with | .d x => scalD x | _ => false
  | _ => false
theorem DRel.scal {w w' : World} {fr fr' : Nat → Nat → Prop} {d : D} {u : Value} (hs : scalD d = true) (h : DRel w fr d u) : DRel w' fr' d u := by
  refine ⟨?_, h.2⟩
  have h1 := h.1
  generalize hcs : u.cells.toList = cs at h1 ⊢
  cases h1 <;> first | (cases hs; done) | constructor
theorem ARel.scal {cx cx' : Cx} {S S' : St} {w w' : World} {x : AV} {u : Value} (hs : scalAV x = true) (h : ARel cx S w x u) : ARel cx' S' w' x u := by
  cases h with
  | d x _ h => exact .d _ _ (DRel.scal hs h)
  | tup xs vs hl h =>
    refine .tup xs vs hl (fun i x v hx hv => ?_)
    simp only [scalAV, List.all_eq_true] at hs
    have := hs x (List.mem_of_getElem? hx)
    have hr := h i x v hx hv
    cases hr with
    | d x _ h => exact .d _ _ (DRel.scal this h)
    | _ => cases this
  | _ => cases hs

theorem SpecC.lend (hR : ObjOk R) {f : Nat} {ds : List D} {v : AV} (h : SpecC R P f ds v) (hv : scalAV v = true) {args : List AV} {S : St} (ha : LendL R S args ds) : SpecF R P f args S (fun r => r = (none, v, S)) := by
  have hargs : ArgsC (ds.map .d) ds := ⟨ds, toDs_d ds, .refl ds⟩
  obtain ⟨hf, hs⟩ := h (ds.map .d) pureSt hargs
  refine ⟨hf, fun cx w us hS hl hr => ?_⟩
  let cxL : Cx := { cx with fr := fun _ _ => False }
  have hL : SRel R cxL pureSt w := by
    have hp := pure_rel hS
    exact ⟨hp.wf, hp.dis, fun id g cs hb => by simp [pureSt, AL.get] at hb, fun id es hb => by simp [pureSt, AL.get] at hb, fun id k x hb => by simp [pureSt, AL.get] at hb, fun id en hb => by simp [pureSt, AL.get] at hb, fun id id' b hl => absurd rfl hl, fun b o q => q.elim, hR.stat _ _ _ _ hS.stat (fun b o v q1 q2 => ⟨q2, fun q => q⟩)⟩
  refine (hs cxL w us hL (by rw [hl, List.length_map, ha.len]) (fun i x u hx hu => ?_)).mono (fun e w' he => ?_)
  · rw [List.getElem?_map, Option.map_eq_some_iff] at hx
    obtain ⟨d, hd, rfl⟩ := hx
    obtain ⟨x, hx, hlx⟩ := ha.get hd
    exact .d _ _ (hlx cx w u hS (hr i x u hx hu))
  · obtain ⟨r, rfl, cx1, k1, k2, k3⟩ := he
    obtain ⟨u, rfl, k3⟩ := k3
    have hb : ∀ b, b < w.heap.size → w'.heap[b]? = w.heap[b]? := fun b hb => (k2.other b hb (fun id hl => absurd rfl hl)).1
    have ex : Ext cx S w cx S w' := Ext.old hS k2.size hb k2.os k2.tape k2.output
    exact ⟨_, rfl, cx, SRel.old hR hS k2.size hb ex, ex, u, rfl, k3.scal hv⟩

/-- .. a call: what is answered, told with a word that may say less, and what one has then. -/
def SpecN (R : ObjR) (P : Program) (f : Nat) (ds : List D) (res : AV → List Asn → Prop) : Prop :=
  ∀ args S, S.Wf → ArgsC args ds → SpecF R P f args S (fun o => o.1 = none ∧ ∃ v l, Less v o.2.1 ∧ res v l ∧ Has S o.2.2 l)

theorem SpecF.dis {f : Nat} {args : List AV} {S : St} {Q : Out → Prop} (h : SpecF R P f args S Q) : SpecF R P f args S (fun o => Q o ∧ ∀ id b, o.2.2.H.get id = some b → o.2.2.T.get id = none) :=
  ⟨h.1, fun cx w us h1 h2 h3 => (h.2 cx w us h1 h2 h3).mono fun e w' ⟨r, q, cx', k, k2⟩ => ⟨r, ⟨q, k.dis⟩, cx', k, k2⟩⟩

theorem ArgsC.lessL : ∀ {args : List AV} {ds : List D}, ArgsC args ds → LessL (ds.map .d) args
  | [], ds, ⟨ds', h1, h2⟩ => by simp [toDs] at h1; subst h1; cases h2; exact .nil
  | x :: xs, ds, ⟨ds', h1, h2⟩ => by
    simp only [toDs] at h1
    split at h1
    · rename_i d hd
      obtain ⟨ds2, h3, rfl⟩ := Option.map_eq_some_iff.1 h1
      cases h2 with
      | cons h k => exact .cons (fun cx S w v hr => .d _ _ (h _ _ _ (toD_sound hd hr))) (ArgsC.lessL ⟨ds2, h3, k⟩)
    · cases h1

section
variable {C : Cfg} {nt : Nat}
theorem SpecN.of_wp {f : Nat} {fn : Func} {c : Code} (hf : C.P.funcs[f]? = some fn) (hc : fn.body = some c) (hn : (fn.name == "runtime.NumGoroutine") = false) {ds : List D} (hle : Nat.ble ds.length fn.ntmps = true) {res : AV → List Asn → Prop}
    (h : ∀ S, S.Wf → WpC R C.P fn.ntmps c (enterE 0 (ds.map .d)) S (endQ C fn (fun o => o.1 = none ∧ ∃ v l, Less v o.2.1 ∧ res v l ∧ Has S o.2.2 l))) : SpecN R C.P f ds res := fun args S hw ha =>
  (SpecF.of_wp hf hc hn (by simpa using Nat.le_of_ble_eq_true hle) (h S hw)).argsL ha.lessL

section steps
variable {ops : Array Oper} {rest : List Oper} {e : Env} {S S' : St} {Q : Stp → Prop} {l l' : List Asn} {t ty : Nat} {p : String} {af : Array Edge} {g : Option (Nat × Bool)} {x y : Operand} {v : AV}
/-- A call of a function of plain data, with rows that are lent. -/
theorem wpO.retL {op : Op} {f : Nat} {args : List AV} {ds : List D} (hR : ObjOk R) (hw : wantedE ops e { dst := some t, op := op, type := ty, pos := p, after := af, guard := g } = some true) (ho : oper C (evalO e) S op = some (.call f args)) (hs : SpecC R C.P f ds v) (hv : scalAV v = true) (ha : LendL R S args ds) (ht : Nat.blt t nt = true)
    (k : wpO R C nt ops rest ((t, v) :: e) S Q) :
    wpO R C nt ops ({ dst := some t, op := op, type := ty, pos := p, after := af, guard := g } :: rest) e S Q :=
  wpO.ret hw ho (hs.lend hR hv ha) ht k
end steps
end
end
end Go.Ev


namespace Go.Ev
noncomputable section
set_option linter.unusedVariables false
set_option linter.unusedSimpArgs false
variable {R : ObjR} {P : Program} {B : St}
def setI {α : Type} (l : List α) (n : Int) (z : α) : List α := l.set n.toNat z
theorem mkAgg_plain (cs : List AV) : (Ev.mkAgg cs).plain = true := by
  unfold Ev.mkAgg
  split <;> rfl
theorem mkAgg_cells (cs : List AV) : (Ev.mkAgg cs).cells = cs := by
  unfold Ev.mkAgg
  split
  · rename_i xs hxs
    simp only [AV.cells]
    induction cs generalizing xs with
    | nil => simp [allD] at hxs; subst hxs; rfl
    | cons x l ih =>
      cases x <;> simp only [allD] at hxs <;> try (cases hxs)
      obtain ⟨ys, h1, rfl⟩ := Option.map_eq_some_iff.1 hxs
      rw [List.map_cons, ih ys h1]
  · rfl
/-- Parts that are words of one size. -/
inductive PartsA (sz : Nat) : List AV → List (List AV) → Prop
  | nil : PartsA sz [] []
  | cons {v : AV} {c : List AV} {vs : List AV} {cs : List (List AV)} (h : cellsP v = some c) (hl : c.length = sz) (k : PartsA sz vs cs) : PartsA sz (v :: vs) (c :: cs)
theorem fill_partsA {sz : Nat} {vs : List AV} {cs : List (List AV)} (h : PartsA sz vs cs) : ∀ (done : List (List AV)) (todo : List AV), (∀ d ∈ done, d.length = sz) → todo.length = vs.length * sz →
    fillD cellsP (fun i => some (i * sz, sz)) (done.flatten ++ todo) (enumF done.length vs) = some ((done ++ cs).flatten) := by
  induction h with
  | nil =>
    intro done todo _ ht
    have : todo = [] := List.eq_nil_of_length_eq_zero (by simpa using ht)
    subst this
    simp [enumF, fillD]
  | @cons v d vs ds h hl k ih =>
    intro done todo hd ht
    have hlen : (done.flatten).length = done.length * sz := by
      clear ih ht
      induction done with
      | nil => simp
      | cons x l ihl =>
        simp only [List.flatten_cons, List.length_append, hd x List.mem_cons_self, List.length_cons, ihl (fun d h => hd d (List.mem_cons_of_mem _ h))]
        rw [Nat.add_mul]; omega
    simp only [List.length_cons] at ht
    rw [Nat.add_mul, Nat.one_mul] at ht
    simp only [enumF, fillD, h]
    rw [if_pos ⟨hl, by rw [List.length_append, hlen, hl]; omega⟩]
    have e1 : todo = todo.take sz ++ todo.drop sz := (List.take_append_drop sz todo).symm
    have e2 : setAt (done.flatten ++ todo) (done.length * sz) d = ((done ++ [d])).flatten ++ todo.drop sz := by
      rw [e1, ← List.append_assoc, ← hlen, setAt_mid _ _ _ _ (by rw [hl, List.length_take]; omega)]
      simp
    rw [e2]
    have := ih (done ++ [d]) (todo.drop sz) (fun x hx => by
      rcases List.mem_append.1 hx with hx | hx
      · exact hd x hx
      · rw [List.mem_singleton.1 hx]; exact hl) (by rw [List.length_drop]; omega)
    rw [show (done ++ [d]).length = done.length + 1 by simp] at this
    rw [this]
    simp
inductive LessP {α : Type} (enc : α → D) : List α → List (List AV) → Prop
  | nil : LessP enc [] []
  | cons {x : α} {c : List AV} {xs : List α} {cs : List (List AV)} (h : LessL ((enc x).cells.map .d) c) (k : LessP enc xs cs) : LessP enc (x :: xs) (c :: cs)
theorem LessP.flat {α : Type} {enc : α → D} {xs : List α} {cs : List (List AV)} (h : LessP enc xs cs) : LessL (((xs.map enc).map D.cells).flatten.map .d) cs.flatten ∧ xs.length = cs.length := by
  induction h with
  | nil => exact ⟨.nil, rfl⟩
  | cons h k ih => exact ⟨by simp only [List.map_cons, List.flatten_cons, List.map_append]; exact h.append ih.1, by simp [ih.2]⟩
theorem PartsA.len {sz : Nat} {vs : List AV} {cs : List (List AV)} (h : PartsA sz vs cs) : vs.length = cs.length ∧ ∀ c ∈ cs, c.length = sz := by
  induction h with
  | nil => exact ⟨rfl, by simp⟩
  | cons h hl k ih => exact ⟨by simp [ih.1], fun d hd => by rcases List.mem_cons.1 hd with rfl | hd; exact hl; exact ih.2 d hd⟩
section
variable {C : Cfg} {nt : Nat} {ops : Array Oper} {rest : List Oper} {e : Env} {S S' : St} {Q : Stp → Prop} {l l' : List Asn} {t ty : Nat} {p : String} {af : Array Edge} {g : Option (Nat × Bool)} {x y : Operand} {v : AV}
end
end
end Go.Ev
namespace Go.Ev
theorem oper_buildSlice0R {C : Cfg} {ρ : Operand → Option AV} {S : St} {t el : Nat} {ag : Bool} (hr : asRow C t 0 = false) (he : elemSl C.P t = some el) (ha : aggO C.P el = some ag) : oper C ρ S (.buildSlice t 0 #[]) = some (.val (.d (.sl [] true)) S) := by
  simp [oper, hr, he, ha, evals, mapO, fillD, chunk]
end Go.Ev
namespace Go.Ev
noncomputable section
set_option linter.unusedVariables false
/-- A place in a row. -/
def rowPtr (v : AV) (n off : Nat) : AV := match v with
  | .msl id g _ _ _ sz => .ptr id g (n * sz + off)
  | _ => .any
theorem RowAt.eq {v p : AV} {n off : Nat} (h : RowAt v p n off) : p = rowPtr v n off := by
  obtain ⟨id, g, len, lim, sz, rfl, rfl⟩ := h
  rfl
section
variable {R : ObjR} {C : Cfg} {nt : Nat} {B : St} {ops : Array Oper} {rest : List Oper} {e : Env} {S S' : St} {Q : Stp → Prop} {l l' : List Asn} {t ty : Nat} {p : String} {af : Array Edge} {g : Option (Nat × Bool)} {x y : Operand} {v : AV}
end
end
end Go.Ev


namespace Go.Ev
noncomputable section
set_option linter.unusedVariables false
set_option linter.unusedSimpArgs false
variable {R : ObjR} {C : Cfg} {nt : Nat} {B : St}

/-! ### A region that draws its order: what each operation finds, whenever it comes up -/

/-- Something that stays true whichever comes up next. -/
theorem any_inv {ops : Array Oper} (hr : regOk ops = true) {Q : Exit → Act → World → Prop} (Inv : Array Bool → Act → World → Prop)
    (hstep : ∀ listed a w i o (K : Act → World → Prop), listed.size = ops.size → Closed ops listed → listed.getD i false = false → ops[i]? = some o → (∀ k, k < i → ((Region.before ops).getD i 0).testBit k = true → listed.getD k false = true) → Inv listed a w →
      (∀ a' w', Inv (listed.setIfInBounds i true) a' w' → K a' w') → wpOp C.P ops Q i K a w)
    (hend : ∀ listed a w, (∀ i, i < ops.size → listed.getD i false = true) → Inv listed a w → Q .normal a w) :
    ∀ (fuel : Nat) (listed : Array Bool) {w : World} {a : Act}, listed.size = ops.size → Closed ops listed → ((List.range ops.size).filter fun i => !listed.getD i false).length = fuel → Inv listed a w → wpAny C.P .any ops Q fuel listed a w := by
  intro fuel
  induction fuel with
  | zero =>
    intro listed w a hsz hcl hlen hI
    have hnil := List.eq_nil_of_length_eq_zero hlen
    have hall : ∀ i, i < ops.size → listed.getD i false = true := fun i hi => by
      cases hc : listed.getD i false with
      | true => rfl
      | false =>
        have : i ∈ (List.range ops.size).filter fun i => !listed.getD i false := by
          rw [List.mem_filter]; exact ⟨List.mem_range.2 hi, by rw [hc]; rfl⟩
        rw [hnil] at this; cases this
    refine ⟨?_, hend listed a w hall hI⟩
    cases hq : Region.ready .any ops listed with
    | nil => rfl
    | cons i l =>
      have hi : i ∈ Region.ready .any ops listed := by rw [hq]; simp
      obtain ⟨h1, o, h2, _⟩ := mem_ready.1 hi
      have hlt : i < ops.size := (Array.getElem?_eq_some_iff.1 h2).1
      have := hall i hlt
      have hlt' : i < listed.size := by omega
      simp [hlt'] at h1 this
      rw [h1] at this; cases this
  | succ fuel ih =>
    intro listed w a hsz hcl hlen hI
    refine ⟨fun hnone => ?_, fun i hi => ?_⟩
    · exfalso
      cases hq : (List.range ops.size).filter fun i => !listed.getD i false with
      | nil => rw [hq] at hlen; simp at hlen
      | cons m l =>
        have hm : m ∈ (List.range ops.size).filter fun i => !listed.getD i false := by rw [hq]; simp
        obtain ⟨hm1, hm2⟩ := List.mem_filter.1 hm
        exact some_ready hr hsz (List.mem_range.1 hm1) (by simpa using hm2) hnone
    · obtain ⟨h1, o, h2, h3⟩ := mem_ready.1 hi
      have hlt : i < ops.size := (Array.getElem?_eq_some_iff.1 h2).1
      have hlt' : i < listed.size := by omega
      have h1' : listed.getD i false = false := by simp [hlt'] at h1 ⊢; exact h1
      have hclo := clo_of hr hcl h2 h3
      refine hstep listed a w i o _ hsz hcl h1' h2 hclo hI (fun a' w' hI' => ih _ (by simpa using hsz) (closed_set hcl hclo) ?_ hI')
      have hsp := hlen
      have hmem : i ∈ (List.range ops.size).filter fun i => !listed.getD i false := by
        rw [List.mem_filter]; exact ⟨List.mem_range.2 hlt, by rw [h1']; rfl⟩
      obtain ⟨l1, l2, hq⟩ := List.append_of_mem hmem
      have hnd : ((List.range ops.size).filter fun i => !listed.getD i false).Nodup := List.Pairwise.filter _ List.nodup_range
      rw [hq] at hnd
      have hn2 := (List.nodup_append.1 hnd)
      have hne1 : ∀ k ∈ l1, k ≠ i := fun k hk => hn2.2.2 k hk i (by simp)
      have hne2 : ∀ k ∈ l2, k ≠ i := fun k hk q => by
        subst q
        exact (List.nodup_cons.1 hn2.2.1).1 hk
      rw [rest_eq hlt' hq hne1 hne2]
      rw [hq] at hsp
      simp at hsp ⊢; omega

/-- A slot holds what a word says. -/
def SlotR (cx : Cx) (S : St) (w : World) (a : Act) (t : Nat) (x : AV) : Prop := ∃ v, a.tmps[t]? = some v ∧ ARel cx S w x v

structure EnvOk (nt : Nat) (ops : Array Oper) (e0 : Env) (listed : Array Bool) (ws : List (Option AV)) (cx : Cx) (S : St) (w : World) (a : Act) : Prop where
  size : nt ≤ a.tmps.size
  new : ∀ k o t, ops[k]? = some o → o.dst = some t → listed.getD k false = true → (∀ j o', j ≠ k → ops[j]? = some o' → o'.dst = some t → listed.getD j false = true → j < k) → ∃ x, ws[k]? = some (some x) ∧ SlotR cx S w a t x
  old : ∀ t x, AL.get e0 t = some x → (∀ j o', ops[j]? = some o' → o'.dst = some t → listed.getD j false = false) → SlotR cx S w a t x

/-- Where each slot that is looked at comes from: from an operation, or from ahead of the region. -/
abbrev Src := List (Nat × Option Nat)
def envOf (ws : List (Option AV)) (e0 : Env) : Src → Option Env
  | [] => some []
  | (t, some k) :: l => match ws[k]? with
    | some (some x) => (envOf ws e0 l).map ((t, x) :: ·)
    | _ => none
  | (t, none) :: l => match AL.get e0 t with
    | some x => (envOf ws e0 l).map ((t, x) :: ·)
    | none => none

def dstIs (ops : Array Oper) (k t : Nat) : Bool := match ops[k]? with
  | some o => (match o.dst with | some d => Nat.beq d t | none => false)
  | none => false
theorem dstIs_iff {ops : Array Oper} {k t : Nat} : dstIs ops k t = true ↔ ∃ o, ops[k]? = some o ∧ o.dst = some t := by
  unfold dstIs
  cases h : ops[k]? with
  | none => simp
  | some o =>
    cases hd : o.dst with
    | none => simp [hd]
    | some d => simp [hd]

/-- .. rightly so, for operation i. -/
def srcB (ops : Array Oper) (Bi : Nat) (i : Nat) : Src → Bool
  | [] => true
  | (t, some k) :: l => dstIs ops k t && Nat.testBit Bi k && ((List.range ops.size).all fun j => !(dstIs ops j t) || Nat.beq j k || Nat.blt j k || Nat.beq j i || Nat.testBit ((Region.before ops).getD j 0) i) && srcB ops Bi i l
  | (t, none) :: l => ((List.range ops.size).all fun j => !(dstIs ops j t) || Nat.beq j i || Nat.testBit ((Region.before ops).getD j 0) i) && srcB ops Bi i l
def finB (ops : Array Oper) : Src → Bool
  | [] => true
  | (t, some k) :: l => dstIs ops k t && ((List.range ops.size).all fun j => !(dstIs ops j t) || Nat.beq j k || Nat.blt j k) && finB ops l
  | (t, none) :: l => ((List.range ops.size).all fun j => !(dstIs ops j t)) && finB ops l

theorem envOf_rel {ops : Array Oper} {e0 : Env} {listed : Array Bool} {ws : List (Option AV)} {cx : Cx} {S : St} {w : World} {a : Act} (h : EnvOk nt ops e0 listed ws cx S w a) : ∀ {L : Src} {e : Env}, envOf ws e0 L = some e →
    (∀ t k, (t, some k) ∈ L → ∃ o, ops[k]? = some o ∧ o.dst = some t ∧ listed.getD k false = true ∧ ∀ j o', j ≠ k → ops[j]? = some o' → o'.dst = some t → listed.getD j false = true → j < k) →
    (∀ t, (t, none) ∈ L → ∀ j o', ops[j]? = some o' → o'.dst = some t → listed.getD j false = false) → ERel cx S w nt e a
  | [], e, he, _, _ => by
    simp only [envOf, Option.some.injEq] at he
    subst he
    exact ⟨h.size, fun t x hx => by simp [AL.get] at hx⟩
  | (t, some k) :: L, e, he, hA, hB => by
    simp only [envOf] at he
    split at he
    · rename_i x hx
      obtain ⟨e', he', rfl⟩ := Option.map_eq_some_iff.1 he
      have ih := envOf_rel h he' (fun t k hm => hA t k (List.mem_cons_of_mem _ hm)) (fun t hm => hB t (List.mem_cons_of_mem _ hm))
      refine ⟨h.size, fun u y hy => ?_⟩
      rw [AL.get_cons] at hy
      by_cases hu : t = u
      · subst hu
        rw [if_pos rfl] at hy; cases hy
        obtain ⟨o, h1, h2, h3, h4⟩ := hA t k List.mem_cons_self
        obtain ⟨x', hx', hs⟩ := h.new k o t h1 h2 h3 h4
        rw [hx] at hx'; cases hx'
        exact hs
      · rw [if_neg hu] at hy; exact ih.rel u y hy
    · cases he
  | (t, none) :: L, e, he, hA, hB => by
    simp only [envOf] at he
    split at he
    · rename_i x hx
      obtain ⟨e', he', rfl⟩ := Option.map_eq_some_iff.1 he
      have ih := envOf_rel h he' (fun t k hm => hA t k (List.mem_cons_of_mem _ hm)) (fun t hm => hB t (List.mem_cons_of_mem _ hm))
      refine ⟨h.size, fun u y hy => ?_⟩
      rw [AL.get_cons] at hy
      by_cases hu : t = u
      · subst hu
        rw [if_pos rfl] at hy; cases hy
        exact h.old t x hx (hB t List.mem_cons_self)
      · rw [if_neg hu] at hy; exact ih.rel u y hy
    · cases he

theorem before_lt {ops : Array Oper} (hr : regOk ops = true) {i k : Nat} (hi : i < ops.size) (h : ((Region.before ops).getD i 0).testBit k = true) : k < i := by
  rcases Nat.lt_or_ge k i with q | q
  · exact q
  · have := (regOk_spec hr (show ops[i]? = some ops[i] by simp [hi])).2.2 k q
    rw [this] at h; cases h

theorem srcB_rel {ops : Array Oper} (hr : regOk ops = true) {e0 : Env} {listed : Array Bool} (hcl : Closed ops listed) {ws : List (Option AV)} {cx : Cx} {S : St} {w : World} {a : Act} (h : EnvOk nt ops e0 listed ws cx S w a) {i : Nat} (hi : i < ops.size) (hun : listed.getD i false = false)
    (hclo : ∀ k, k < i → ((Region.before ops).getD i 0).testBit k = true → listed.getD k false = true) {L : Src} {e : Env} (he : envOf ws e0 L = some e) (hb : srcB ops ((Region.before ops).getD i 0) i L = true) : ERel cx S w nt e a := by
  have late : ∀ j, j < ops.size → ((Region.before ops).getD j 0).testBit i = true → listed.getD j false = true → False := fun j hj hb hl => by
    have := hcl j hl i (before_lt hr hj hb) hb
    rw [this] at hun; cases hun
  have key : (∀ t k, (t, some k) ∈ L → ∃ o, ops[k]? = some o ∧ o.dst = some t ∧ listed.getD k false = true ∧ ∀ j o', j ≠ k → ops[j]? = some o' → o'.dst = some t → listed.getD j false = true → j < k) ∧
      (∀ t, (t, none) ∈ L → ∀ j o', ops[j]? = some o' → o'.dst = some t → listed.getD j false = false) := by
    clear he
    induction L with
    | nil => exact ⟨fun t k hm => (by cases hm), fun t hm => (by cases hm)⟩
    | cons p L ih =>
      obtain ⟨t, s⟩ := p
      cases s with
      | some k =>
        simp only [srcB, Bool.and_eq_true] at hb
        obtain ⟨⟨⟨b1, b2⟩, b3⟩, b4⟩ := hb
        obtain ⟨ih1, ih2⟩ := ih b4
        refine ⟨fun u q hm => ?_, fun u hm => ?_⟩
        · rcases List.mem_cons.1 hm with hm | hm
          · cases hm
            obtain ⟨o, h1, h2⟩ := dstIs_iff.1 b1
            refine ⟨o, h1, h2, hclo k (before_lt hr hi b2) b2, fun j o' hjk hj hd hl => ?_⟩
            have hjl : j < ops.size := (Array.getElem?_eq_some_iff.1 hj).1
            have := List.all_eq_true.1 b3 j (List.mem_range.2 hjl)
            simp only [dstIs_iff.2 ⟨o', hj, hd⟩, Bool.not_true, Bool.false_or, Bool.or_eq_true] at this
            rcases this with ((q | q) | q) | q
            · exact absurd (Nat.eq_of_beq_eq_true q) hjk
            · exact Nat.le_of_ble_eq_true q
            · rw [Nat.eq_of_beq_eq_true q, hun] at hl; cases hl
            · exact (late j hjl q hl).elim
          · exact ih1 u q hm
        · rcases List.mem_cons.1 hm with hm | hm
          · cases hm
          · exact ih2 u hm
      | none =>
        simp only [srcB, Bool.and_eq_true] at hb
        obtain ⟨b3, b4⟩ := hb
        obtain ⟨ih1, ih2⟩ := ih b4
        refine ⟨fun u q hm => ?_, fun u hm => ?_⟩
        · rcases List.mem_cons.1 hm with hm | hm
          · cases hm
          · exact ih1 u q hm
        · rcases List.mem_cons.1 hm with hm | hm
          · cases hm
            intro j o' hj hd
            have hjl : j < ops.size := (Array.getElem?_eq_some_iff.1 hj).1
            have := List.all_eq_true.1 b3 j (List.mem_range.2 hjl)
            simp only [dstIs_iff.2 ⟨o', hj, hd⟩, Bool.not_true, Bool.false_or, Bool.or_eq_true] at this
            rcases this with q | q
            · rw [Nat.eq_of_beq_eq_true q]; exact hun
            · cases hl : listed.getD j false with
              | false => rfl
              | true => exact (late j hjl q hl).elim
          · exact ih2 u hm
  exact envOf_rel h he key.1 key.2

theorem finB_rel {ops : Array Oper} {e0 : Env} {listed : Array Bool} (hall : ∀ i, i < ops.size → listed.getD i false = true) {ws : List (Option AV)} {cx : Cx} {S : St} {w : World} {a : Act} (h : EnvOk nt ops e0 listed ws cx S w a) {L : Src} {e : Env} (he : envOf ws e0 L = some e) (hb : finB ops L = true) : ERel cx S w nt e a := by
  have key : (∀ t k, (t, some k) ∈ L → ∃ o, ops[k]? = some o ∧ o.dst = some t ∧ listed.getD k false = true ∧ ∀ j o', j ≠ k → ops[j]? = some o' → o'.dst = some t → listed.getD j false = true → j < k) ∧
      (∀ t, (t, none) ∈ L → ∀ j o', ops[j]? = some o' → o'.dst = some t → listed.getD j false = false) := by
    clear he
    induction L with
    | nil => exact ⟨fun t k hm => (by cases hm), fun t hm => (by cases hm)⟩
    | cons p L ih =>
      obtain ⟨t, s⟩ := p
      cases s with
      | some k =>
        simp only [finB, Bool.and_eq_true] at hb
        obtain ⟨⟨b1, b3⟩, b4⟩ := hb
        obtain ⟨ih1, ih2⟩ := ih b4
        refine ⟨fun u q hm => ?_, fun u hm => ?_⟩
        · rcases List.mem_cons.1 hm with hm | hm
          · cases hm
            obtain ⟨o, h1, h2⟩ := dstIs_iff.1 b1
            refine ⟨o, h1, h2, hall k (Array.getElem?_eq_some_iff.1 h1).1, fun j o' hjk hj hd hl => ?_⟩
            have hjl : j < ops.size := (Array.getElem?_eq_some_iff.1 hj).1
            have := List.all_eq_true.1 b3 j (List.mem_range.2 hjl)
            simp only [dstIs_iff.2 ⟨o', hj, hd⟩, Bool.not_true, Bool.false_or, Bool.or_eq_true] at this
            rcases this with q | q
            · exact absurd (Nat.eq_of_beq_eq_true q) hjk
            · exact Nat.le_of_ble_eq_true q
          · exact ih1 u q hm
        · rcases List.mem_cons.1 hm with hm | hm
          · cases hm
          · exact ih2 u hm
      | none =>
        simp only [finB, Bool.and_eq_true] at hb
        obtain ⟨b3, b4⟩ := hb
        obtain ⟨ih1, ih2⟩ := ih b4
        refine ⟨fun u q hm => ?_, fun u hm => ?_⟩
        · rcases List.mem_cons.1 hm with hm | hm
          · cases hm
          · exact ih1 u q hm
        · rcases List.mem_cons.1 hm with hm | hm
          · cases hm
            intro j o' hj hd
            have hjl : j < ops.size := (Array.getElem?_eq_some_iff.1 hj).1
            have := List.all_eq_true.1 b3 j (List.mem_range.2 hjl)
            simp only [dstIs_iff.2 ⟨o', hj, hd⟩, Bool.not_true, Bool.or_self] at this
            cases this
          · exact ih2 u hm
  exact envOf_rel h he key.1 key.2

/-- What an operation comes to that leaves the memory as it is. -/
inductive OpR (R : ObjR) (C : Cfg) (nt : Nat) (ops : Array Oper) (S : St) (e : Env) (o : Oper) (x : AV) : Prop
  | val {v : AV} (hw : wantedE ops e o = some true) (ho : oper C (evalO e) S o.op = some (.val v S)) (hl : Less x v)
  | call {f : Nat} {args : List AV} {v : AV} (hw : wantedE ops e o = some true) (ho : oper C (evalO e) S o.op = some (.call f args)) (hs : SpecF R C.P f args S (fun r => r = (none, v, S))) (hl : Less x v)
  | no (hw : wantedE ops e o = some false) (hl : Less x (.tup []))
  | step (h : wpO R C nt ops [o] e S (fun r => ∃ e' v, r = .go e' S ∧ (∀ t, o.dst = some t → AL.get e' t = some v ∧ Less x v)))
/-- .. that may change it. -/
inductive OpW (R : ObjR) (C : Cfg) (nt : Nat) (ops : Array Oper) (S : St) (e : Env) (o : Oper) (Q : AV → St → Prop) : Prop
  | val {v : AV} {S' : St} (hw : wantedE ops e o = some true) (ho : oper C (evalO e) S o.op = some (.val v S')) (hq : Q v S')
  | skip {S' : St} (hw : wantedE ops e o = some true) (ho : oper C (evalO e) S o.op = some (.skip S')) (hd : o.dst = none) (hq : Q .any S')
  | call {f : Nat} {args : List AV} (hw : wantedE ops e o = some true) (ho : oper C (evalO e) S o.op = some (.call f args)) (hs : SpecF R C.P f args S (fun r => r.1 = none ∧ Q r.2.1 r.2.2))
  | no (hw : wantedE ops e o = some false) (hq : Q (.tup []) S)
  | step (h : wpO R C nt ops [o] e S (fun r => ∃ e' v S', r = .go e' S' ∧ (∀ t, o.dst = some t → AL.get e' t = some v) ∧ Q v S'))

/-- One operation, and where its word goes. -/
theorem wpStep_put (hR : ObjOkC R C) {ops : Array Oper} {o : Oper} {e : Env} {S : St} {Q : Stp → Prop} (h : wpStep R C nt ops o e S Q) (hno : ∀ r, Q r → ∃ e' S', r = .go e' S') {cx : Cx} {w : World} {a : Act} (hS : SRel R cx S w) (he : ERel cx S w nt e a)
    {K : Act → World → Prop} {Kx : Exit → Act → World → Prop} (hk : ∀ e' S' cx' w' u, Q (.go e' S') → SRel R cx' S' w' → Ext cx S w cx' S' w' → ERel cx' S' w' nt e' (a.put o.dst u) → K (a.put o.dst u) w') (hnx : ∀ t, o.op ≠ .next (.tmp t) false) {i : Nat} (hi : ops[i]? = some o) : wpOp C.P ops Kx i K a w := by
  have hrefl := Ext.refl (cx := cx) w hS.wf
  rcases h with ⟨t, rs, h1, h2, h3⟩ | ⟨e2, hw, h1, h2⟩ | ⟨e2, e', hw, h1, h2, h3⟩
  · exact absurd h1 (hnx t)
  · have he2 := he.weak hw
    unfold wpOp
    rw [hi]
    simp only
    rw [if_pos (wanted_sound he h1)]
    left
    rcases h2 with ⟨v, S', e', h1, h2, h3⟩ | ⟨S', h1, h2, h3⟩ | ⟨f, args, h1, h2⟩ | ⟨t, x, y, ty, xs, b, el, hop, hx, hy, hu, hq⟩
    rotate_left 3
    · have rx := he2.eval x _ hx
      have ry := he2.eval y _ hy
      obtain ⟨a0, n, c, ex, hnil⟩ := DRel_nil rx.dd
      have ey : a.eval y = .slice none 0 0 := by
        have := ry.dd.val rfl
        generalize a.eval y = z at this
        cases this
        rfl
      have hrun : (execOp a.eval o).run C.P w = .ok (.value (.bool a0.isNone)) w := by
        obtain ⟨dst, op, ty', pos, after, guard⟩ := o
        simp only at hop
        subst hop
        exact exV (by
          rw [ex, ey]
          have hg : (eqGuard .eql t x y (.slice a0 n c) (.slice none 0 0)).run C.P w = .ok () w := guard_plain rfl
          simp only [Sem.run_bind, hg, Result.andThen_ok]
          exact Lib.run_eql_slice_nil w t el a0 n c 0 0 hu)
      obtain ⟨e', hp, hk'⟩ := hq a0.isNone (fun h => hnil (by cases a0 with | none => rfl | some a => cases h))
      unfold Oper.wp
      rw [hrun]
      exact hk _ _ cx w _ hk' hS hrefl (he2.put hp (.of_bool _))
    · obtain ⟨cx', w', u, k1, k2, k3, k4⟩ := oper_sound hR hS he2.eval o h1
      unfold Oper.wp
      rw [k1]
      exact hk _ _ cx' w' u h3 k2 k3 ((he2.mono k3).put h2 k4)
    · obtain ⟨cx', w', k1, k2, k3⟩ := oper_sound hR hS he2.eval o h1
      unfold Oper.wp
      rw [k1]
      refine hk _ _ cx' w' undef h3 k2 k3 ?_
      rw [h2]
      exact he2.mono k3
    · obtain ⟨us, k1, k2, k3⟩ := oper_sound hR hS he2.eval o h1
      obtain ⟨⟨fn, f1, f2, f3⟩, hcalls⟩ := h2
      unfold Oper.wp
      rw [k3 fn f1 f2 f3]
      refine (hcalls cx w us hS k1 k2).mono (fun en w' hen => ?_)
      obtain ⟨⟨p, v, S'⟩, hq, cx', m1, m2, m3⟩ := hen
      cases p with
      | none =>
        obtain ⟨u, rfl, m3⟩ := m3
        obtain ⟨e', hp, hq⟩ := hq
        exact hk _ _ cx' _ _ hq m1 m2 ((he2.mono m2).put hp m3)
      | some p =>
        obtain ⟨_, _, hc⟩ := hno _ hq
        cases hc
  · have he2 := he.weak hw
    unfold wpOp
    rw [hi]
    simp only
    rw [if_neg (by rw [wanted_sound he h1]; simp)]
    split at h2
    · rename_i hd
      subst h2
      refine hk _ _ cx w _ h3 hS hrefl ?_
      rw [hd]
      exact he2
    · rename_i t hd
      refine hk _ _ cx w _ h3 hS hrefl ?_
      rw [hd]
      exact he2.put h2 (.tup [] [] rfl (fun i x v hx => by simp at hx))

theorem slot_put {cx : Cx} {S : St} {w : World} {a : Act} {e : Env} {t : Nat} {u : Value} {v : AV} (he : ERel cx S w nt e (a.put (some t) u)) (hv : AL.get e t = some v) : ARel cx S w v u := by
  obtain ⟨u', h1, h2⟩ := he.rel t v hv
  simp only [Act.put] at h1
  have hlt : t < a.tmps.size := by
    have := (Array.getElem?_eq_some_iff.1 h1).1
    simpa using this
  rw [Array.getElem?_setIfInBounds_self_of_lt hlt] at h1
  cases h1
  exact h2

theorem opR_sound (hR : ObjOkC R C) {ops : Array Oper} {o : Oper} {e : Env} {S : St} {x : AV} (h : OpR R C nt ops S e o x) {cx : Cx} {w : World} {a : Act} (hS : SRel R cx S w) (he : ERel cx S w nt e a)
    {K : Act → World → Prop} {Kx : Exit → Act → World → Prop} (hk : ∀ cx' w' u, SRel R cx' S w' → Ext cx S w cx' S w' → (∀ t, o.dst = some t → ARel cx' S w' x u) → K (a.put o.dst u) w') (hnx : ∀ t, o.op ≠ .next (.tmp t) false) {i : Nat} (hi : ops[i]? = some o) : wpOp C.P ops Kx i K a w := by
  have hrefl := Ext.refl (cx := cx) w hS.wf
  unfold wpOp
  rw [hi]
  simp only
  cases h with
  | val hw ho hl =>
    rw [if_pos (wanted_sound he hw)]
    left
    obtain ⟨cx', w', u, k1, k2, k3, k4⟩ := oper_sound hR hS he.eval o ho
    unfold Oper.wp
    rw [k1]
    exact hk cx' w' u k2 k3 (fun _ _ => hl _ _ _ _ k4)
  | call hw ho hs hl =>
    rw [if_pos (wanted_sound he hw)]
    left
    obtain ⟨us, k1, k2, k3⟩ := oper_sound hR hS he.eval o ho
    obtain ⟨⟨fn, f1, f2, f3⟩, hcalls⟩ := hs
    unfold Oper.wp
    rw [k3 fn f1 f2 f3]
    refine (hcalls cx w us hS k1 k2).mono (fun en w' hen => ?_)
    obtain ⟨r, rfl, cx', m1, m2, m3⟩ := hen
    obtain ⟨u, rfl, m3⟩ := m3
    exact hk cx' w' u m1 m2 (fun _ _ => hl _ _ _ _ m3)
  | no hw hl =>
    rw [if_neg (by rw [wanted_sound he hw]; simp)]
    have hv : ARel cx S w x (.tuple #[]) := hl _ _ _ _ (.tup [] [] rfl (fun i x v hx => by simp at hx))
    exact hk cx w _ hS hrefl (fun _ _ => hv)
  | step h =>
    obtain ⟨e2, S2, hw, h⟩ := h
    obtain ⟨cx2, gS, gx, ge⟩ := hw cx w a hS he
    have := wpStep_put hR h (fun r hr => by
      cases r with
      | go e' S' => exact ⟨_, _, rfl⟩
      | stop v S' => obtain ⟨_, _, hc, _⟩ := hr; cases hc) gS ge (K := K) (Kx := Kx) (fun e' S' cx' w' u hq q1 q2 q3 => ?_) hnx hi
    · unfold wpOp at this
      rw [hi] at this
      exact this
    · obtain ⟨e3, hw3, e4, v, hq1, hq2⟩ := hq
      cases hq1
      refine hk cx' w' u q1 (gx.trans q2) (fun t ht => ?_)
      obtain ⟨g1, g2⟩ := hq2 t ht
      rw [ht] at q3
      exact g2 _ _ _ _ (slot_put (q3.weak hw3) g1)

theorem opW_sound (hR : ObjOkC R C) {ops : Array Oper} {o : Oper} {e : Env} {S : St} {Q : AV → St → Prop} (h : OpW R C nt ops S e o Q) {cx : Cx} {w : World} {a : Act} (hS : SRel R cx S w) (he : ERel cx S w nt e a)
    {K : Act → World → Prop} {Kx : Exit → Act → World → Prop} (hk : ∀ v S' cx' w' u, Q v S' → SRel R cx' S' w' → Ext cx S w cx' S' w' → (∀ t, o.dst = some t → ARel cx' S' w' v u) → K (a.put o.dst u) w') (hnx : ∀ t, o.op ≠ .next (.tmp t) false) {i : Nat} (hi : ops[i]? = some o) : wpOp C.P ops Kx i K a w := by
  have hrefl := Ext.refl (cx := cx) w hS.wf
  unfold wpOp
  rw [hi]
  simp only
  cases h with
  | val hw ho hq =>
    rw [if_pos (wanted_sound he hw)]
    left
    obtain ⟨cx', w', u, k1, k2, k3, k4⟩ := oper_sound hR hS he.eval o ho
    unfold Oper.wp
    rw [k1]
    exact hk _ _ cx' w' u hq k2 k3 (fun _ _ => k4)
  | skip hw ho hd hq =>
    rw [if_pos (wanted_sound he hw)]
    left
    obtain ⟨cx', w', k1, k2, k3⟩ := oper_sound hR hS he.eval o ho
    unfold Oper.wp
    rw [k1]
    exact hk _ _ cx' w' undef hq k2 k3 (fun _ _ => .any _)
  | call hw ho hs =>
    rw [if_pos (wanted_sound he hw)]
    left
    obtain ⟨us, k1, k2, k3⟩ := oper_sound hR hS he.eval o ho
    obtain ⟨⟨fn, f1, f2, f3⟩, hcalls⟩ := hs
    unfold Oper.wp
    rw [k3 fn f1 f2 f3]
    refine (hcalls cx w us hS k1 k2).mono (fun en w' hen => ?_)
    obtain ⟨⟨p, v, S'⟩, ⟨hp, hq⟩, cx', m1, m2, m3⟩ := hen
    simp only at hp
    subst hp
    obtain ⟨u, rfl, m3⟩ := m3
    exact hk _ _ cx' w' u hq m1 m2 (fun _ _ => m3)
  | no hw hq =>
    rw [if_neg (by rw [wanted_sound he hw]; simp)]
    exact hk _ _ cx w _ hq hS hrefl (fun _ _ => .tup [] [] rfl (fun i x v hx => by simp at hx))
  | step h =>
    obtain ⟨e2, S2, hw, h⟩ := h
    obtain ⟨cx2, gS, gx, ge⟩ := hw cx w a hS he
    have := wpStep_put hR h (fun r hr => by
      cases r with
      | go e' S' => exact ⟨_, _, rfl⟩
      | stop v S' => obtain ⟨_, _, _, hc, _⟩ := hr; cases hc) gS ge (K := K) (Kx := Kx) (fun e' S' cx' w' u hq q1 q2 q3 => ?_) hnx hi
    · unfold wpOp at this
      rw [hi] at this
      exact this
    · obtain ⟨e3, hw3, e4, v, S4, hq1, hq2, hq3⟩ := hq
      cases hq1
      refine hk v S' cx' w' u hq3 q1 (gx.trans q2) (fun t ht => ?_)
      have g1 := hq2 t ht
      rw [ht] at q3
      exact slot_put (q3.weak hw3) g1

/-! ### .. with what writes in a fixed order -/
/-- Words of operations, told with words that may say less, and more of them. -/
inductive WsLe : List (Option AV) → List (Option AV) → Prop
  | nil : WsLe [] []
  | new {x : Option AV} {a b : List (Option AV)} (k : WsLe a b) : WsLe (x :: a) (none :: b)
  | old {x y : AV} {a b : List (Option AV)} (h : Less y x) (k : WsLe a b) : WsLe (some y :: a) (some x :: b)
theorem WsLe.get {a b : List (Option AV)} (h : WsLe a b) : ∀ {k : Nat} {x : AV}, b[k]? = some (some x) → ∃ y, a[k]? = some (some y) ∧ Less y x := by
  induction h with
  | nil => intro k x h; simp at h
  | new k ih =>
    intro k x h
    cases k with
    | zero => simp at h
    | succ k => simpa using ih (by simpa using h)
  | old h k ih =>
    intro k x hx
    cases k with
    | zero => simp at hx; subst hx; exact ⟨_, rfl, h⟩
    | succ k => simpa using ih (by simpa using hx)
/-- An operation has come up. -/
theorem EnvOk.step {ops : Array Oper} (hr : regOk ops = true) (hnt : ∀ (k : Nat) (o : Oper) (t : Nat), ops[k]? = some o → o.dst = some t → t < nt) {e0 : Env} {listed : Array Bool} (hsz : listed.size = ops.size) (hcl : Closed ops listed) {ws ws' : List (Option AV)} {i : Nat} (hle : ∀ k x, k ≠ i → ws[k]? = some (some x) → ∃ y, ws'[k]? = some (some y) ∧ Less y x) {cx cx' : Cx} {S S' : St} {w w' : World} {a : Act} (h : EnvOk nt ops e0 listed ws cx S w a)
    {o : Oper} (hi : ops[i]? = some o) (hun : listed.getD i false = false) (ex : Ext cx S w cx' S' w') {u : Value} (hu : ∀ t, o.dst = some t → ∃ x, ws'[i]? = some (some x) ∧ ARel cx' S' w' x u) : EnvOk nt ops e0 (listed.setIfInBounds i true) ws' cx' S' w' (a.put o.dst u) := by
  have hlt : i < ops.size := (Array.getElem?_eq_some_iff.1 hi).1
  have size : nt ≤ (a.put o.dst u).tmps.size := by
    cases hd : o.dst with
    | none => exact h.size
    | some t => simp only [Act.put, Array.size_setIfInBounds]; exact h.size
  have keep : ∀ t, o.dst ≠ some t → (a.put o.dst u).tmps[t]? = a.tmps[t]? := fun t ht => by
    cases hd : o.dst with
    | none => rfl
    | some d =>
      have : d ≠ t := fun q => ht (by rw [hd, q])
      simp only [Act.put]
      rw [Array.getElem?_setIfInBounds_ne this]
  refine ⟨size, fun k ok t hk hd hlk hlast => ?_, fun t x hx hno => ?_⟩
  · by_cases hki : k = i
    · subst hki
      rw [hi] at hk; cases hk
      obtain ⟨x, hx, hr⟩ := hu t hd
      refine ⟨x, hx, u, ?_, hr⟩
      have htn := hnt k o t hi hd
      have := h.size
      rw [hd]
      simp only [Act.put]
      rw [Array.getElem?_setIfInBounds_self_of_lt (by omega)]
    · have hlk' : listed.getD k false = true := by rwa [getD_set_ne false (fun q => hki q.symm)] at hlk
      have hklt : k < ops.size := (Array.getElem?_eq_some_iff.1 hk).1
      have hdi : o.dst ≠ some t := fun hdi => by
        have hik := hlast i o (fun q => hki q.symm) hi hdi (by have hlt' : i < listed.size := by omega
                                                               simp [hlt'])
        obtain ⟨r1, r2, _⟩ := regOk_spec hr hk
        have := r2 i o hik hi
        split at this
        · rename_i hb
          have := hcl k hlk' i hik hb
          rw [hun] at this; cases this
        · simp only [Oper.apart, hdi, hd, Bool.and_eq_true] at this
          simp at this
      obtain ⟨x, hx, v, v1, v2⟩ := h.new k ok t hk hd hlk' (fun j o' hjk hj hdj hlj => hlast j o' hjk hj hdj (by
        by_cases hji : i = j
        · subst hji; rw [hun] at hlj; cases hlj
        · rw [getD_set_ne false hji]; exact hlj))
      obtain ⟨y, hy, hyx⟩ := hle k x hki hx
      exact ⟨y, hy, v, by rw [keep t hdi]; exact v1, hyx _ _ _ _ (v2.mono ex)⟩
  · have hdi : o.dst ≠ some t := fun hdi => by
      have := hno i o hi hdi
      have hlt' : i < listed.size := by omega
      simp [hlt'] at this
    obtain ⟨v, v1, v2⟩ := h.old t x hx (fun j o' hj hdj => by
      have := hno j o' hj hdj
      by_cases hji : i = j
      · subst hji; exact hun
      · rwa [getD_set_ne false hji] at this)
    exact ⟨v, by rw [keep t hdi]; exact v1, v2.mono ex⟩

/-- What must be seen of the operations that may come up now. -/
inductive RL (R : ObjR) (C : Cfg) (nt : Nat) (ops : Array Oper) (srcs : List Src) (e0 : Env) (ws : List (Option AV)) (S : St) : List Nat → Prop
  | nil : RL R C nt ops srcs e0 ws S []
  | cons {i : Nat} {o : Oper} {x : AV} {e : Env} {os : List Nat} (ho : ops[i]? = some o) (hx : ws[i]? = some (some x)) (he : envOf ws e0 (srcs.getD i []) = some e) (h : OpR R C nt ops S e o x) (k : RL R C nt ops srcs e0 ws S os) : RL R C nt ops srcs e0 ws S (i :: os)
theorem RL.get {ops : Array Oper} {srcs : List Src} {e0 : Env} {ws : List (Option AV)} {S : St} {os : List Nat} (h : RL R C nt ops srcs e0 ws S os) : ∀ {i : Nat}, i ∈ os → ∃ o x e, ops[i]? = some o ∧ ws[i]? = some (some x) ∧ envOf ws e0 (srcs.getD i []) = some e ∧ OpR R C nt ops S e o x := by
  induction h with
  | nil => intro i h; cases h
  | cons ho hx he h k ih =>
    intro i hi
    rcases List.mem_cons.1 hi with rfl | hi
    · exact ⟨_, _, _, ho, hx, he, h⟩
    · exact ih hi

def memB (i : Nat) (l : List Nat) : Bool := l.any fun j => Nat.beq j i
theorem memB_iff {i : Nat} {l : List Nat} : memB i l = true ↔ i ∈ l := by
  simp only [memB, List.any_eq_true]
  constructor
  · rintro ⟨j, hj, hb⟩; rw [← Nat.eq_of_beq_eq_true hb]; exact hj
  · intro h; exact ⟨i, h, Nat.beq_refl i⟩
/-- All that may come up now is seen to. -/
def coverB (ops : Array Oper) (os done : List Nat) (w : Option Nat) (W : List Nat) : Bool :=
  (os.all fun j => !memB j W) &&   (List.range ops.size).all fun i => memB i os || memB i done || (done.any fun d => Nat.testBit ((Region.before ops).getD d 0) i) || (match w with | some w => Nat.beq i w || Nat.testBit ((Region.before ops).getD i 0) w | none => false)

def DrawP (R : ObjR) (C : Cfg) (nt : Nat) (ops : Array Oper) (srcs : List Src) (fin : Src) (e0 : Env) (Q : Env → St → Prop) : List Nat → List Nat → List (Option AV) → St → Prop
  | [], done, ws, S => ∃ os, coverB ops os done none [] = true ∧ RL R C nt ops srcs e0 ws S os ∧ ∃ E, envOf ws e0 fin = some E ∧ Q E S
  | i :: W, done, ws, S => ∃ os, coverB ops os done (some i) (i :: W) = true ∧ RL R C nt ops srcs e0 ws S os ∧ ∃ o e, ops[i]? = some o ∧ envOf ws e0 (srcs.getD i []) = some e ∧
      OpW R C nt ops S e o (fun v S' => ∃ ws', WsLe ws' ws ∧ (∀ t, o.dst = some t → ∃ x, ws'[i]? = some (some x) ∧ Less x v) ∧ DrawP R C nt ops srcs fin e0 Q W (i :: done) ws' S')

/-- What is asked of a region's text alone. -/
def textB (ops : Array Oper) (nt : Nat) (srcs : List Src) (fin : Src) : Bool :=
  regOk ops && finB ops fin && (List.range ops.size).all fun i => srcB ops ((Region.before ops).getD i 0) i (srcs.getD i []) && (match ops[i]? with | some o => (match o.dst with | some t => Nat.blt t nt | none => true) && (match o.op with | .next _ _ => false | _ => true) | none => true)

theorem WpC.drawP (hR : ObjOkC R C) (hm : C.P.follows .mixedOrders = true) {id : Nat} {ops : Array Oper} (srcs : List Src) (fin : Src) (ht : textB ops nt srcs fin = true) (W : List Nat) (hWn : W.Nodup) {e0 : Env} {S : St} (ws : List (Option AV)) {Q : Res → Prop}
    (h : DrawP R C nt ops srcs fin e0 (fun e' S' => Q (.normal, e', S')) W [] ws S) : WpC R C.P nt (.region id ops true) e0 S Q := by
  simp only [textB, Bool.and_eq_true] at ht
  obtain ⟨⟨hr, hfin⟩, hall⟩ := ht
  have hsrc : ∀ i, i < ops.size → srcB ops ((Region.before ops).getD i 0) i (srcs.getD i []) = true := fun i hi => by
    have := List.all_eq_true.1 hall i (List.mem_range.2 hi)
    simp only [Bool.and_eq_true] at this
    exact this.1
  have hnt : ∀ (k : Nat) (o : Oper) (t : Nat), ops[k]? = some o → o.dst = some t → t < nt := fun k o t hk hd => by
    have := List.all_eq_true.1 hall k (List.mem_range.2 (Array.getElem?_eq_some_iff.1 hk).1)
    simp only [Bool.and_eq_true, hk, hd] at this
    exact Nat.le_of_ble_eq_true this.2.1
  have hnx : ∀ (k : Nat) (o : Oper), ops[k]? = some o → ∀ t, o.op ≠ .next (.tmp t) false := fun k o hk t ho => by
    have := List.all_eq_true.1 hall k (List.mem_range.2 (Array.getElem?_eq_some_iff.1 hk).1)
    simp only [Bool.and_eq_true, hk, ho] at this
    cases this.2.2
  intro cx w a Kx hS he hk
  refine wp_region_any hm ?_
  obtain ⟨d1, d2⟩ := drew_sound hR.toObjOk hS
  let Inv : Array Bool → Act → World → Prop := fun listed a' w' => a'.defers = a.defers ∧ ∃ W' done ws' S' cx', DrawP R C nt ops srcs fin e0 (fun e' S' => Q (.normal, e', S')) W' done ws' S' ∧ (∀ i ∈ done, listed.getD i false = true) ∧ (∀ i ∈ W', listed.getD i false = false) ∧ W'.Nodup ∧
    SRel R cx' S' w' ∧ Ext cx S w cx' S' w' ∧ EnvOk nt ops e0 listed ws' cx' S' w' a'
  have repf : ∀ i, (Array.replicate ops.size false).getD i false = false := fun i => rep_false _ _
  refine any_inv hr Inv ?_ ?_ ops.size (Array.replicate ops.size false) (by simp) (fun j hj => by rw [repf] at hj; cases hj) ?_ ?_
  · intro listed a' w' i o K hsz hcl hun hi hclo ⟨hd, W', done, ws', S', cx', hD, hdone, hW', hnd, s1, x1, env⟩ hK
    have hlt : i < ops.size := (Array.getElem?_eq_some_iff.1 hi).1
    -- what needs no writing
    have rstep : ∀ os, RL R C nt ops srcs e0 ws' S' os → i ∈ os → i ∉ W' → wpOp C.P ops Kx i K a' w' := fun os hrl hio hiw => by
      obtain ⟨o2, x, e, h1, h2, h3, h4⟩ := hrl.get hio
      rw [hi] at h1; cases h1
      have hrel := srcB_rel hr hcl env hlt hun hclo h3 (hsrc i hlt)
      refine opR_sound hR h4 s1 hrel (fun cx2 w2 u q1 q2 q3 => hK _ _ ⟨by rw [put_defers]; exact hd, W', done, ws', S', cx2, hD, fun j hj => ?_, fun j hj => ?_, hnd, q1, x1.trans q2, ?_⟩) (hnx i o hi) hi
      · by_cases hij : i = j
        · subst hij; exact getD_set_true (hdone i hj)
        · rw [getD_set_ne false hij]; exact hdone j hj
      · have hij : i ≠ j := fun q => hiw (q ▸ hj)
        rw [getD_set_ne false hij]; exact hW' j hj
      · exact EnvOk.step hr hnt hsz hcl (fun k y _ hy => ⟨y, hy, .refl y⟩) env hi hun q2 (fun t ht => ⟨x, h2, q3 t ht⟩)
    have cov : ∀ os w0, coverB ops os done w0 W' = true → (i ∈ os ∧ i ∉ W') ∨ ∃ w1, w0 = some w1 ∧ (i = w1 ∨ listed.getD w1 false = true) := fun os w0 hc => by
      simp only [coverB, Bool.and_eq_true] at hc
      obtain ⟨c1, c2⟩ := hc
      have := List.all_eq_true.1 c2 i (List.mem_range.2 hlt)
      simp only [Bool.or_eq_true] at this
      rcases this with ((q | q) | q) | q
      · left
        have hio := memB_iff.1 q
        refine ⟨hio, fun hiw => ?_⟩
        have := List.all_eq_true.1 c1 i hio
        rw [memB_iff.2 hiw] at this; cases this
      · have := hdone i (memB_iff.1 q)
        rw [hun] at this; cases this
      · obtain ⟨d, hd1, hd2⟩ := List.any_eq_true.1 q
        have hl := hdone d hd1
        have hdlt : d < ops.size := by
          rcases Nat.lt_or_ge d ops.size with q | q
          · exact q
          · have : listed.getD d false = false := by simp [show listed.size ≤ d by omega]
            rw [hl] at this; cases this
        have := hcl d hl i (before_lt hr hdlt hd2) hd2
        rw [hun] at this; cases this
      · right
        cases w0 with
        | none => cases q
        | some w1 =>
          simp only [Bool.or_eq_true] at q
          refine ⟨w1, rfl, q.imp Nat.eq_of_beq_eq_true (fun q => hclo w1 (before_lt hr hlt q) q)⟩
    cases W' with
    | nil =>
      obtain ⟨os, hc, hrl, _⟩ := _root_.id hD
      rcases cov os none hc with h | ⟨w1, h, _⟩
      · exact rstep os hrl h.1 h.2
      · cases h
    | cons w0 W2 =>
      obtain ⟨os, hc, hrl, o2, e, h1, h2, h3⟩ := _root_.id hD
      rcases cov os (some w0) hc with h | ⟨w1, h, hq⟩
      · exact rstep os hrl h.1 h.2
      · cases h
        rcases hq with rfl | hq
        · rw [hi] at h1; cases h1
          have hrel := srcB_rel hr hcl env hlt hun hclo h2 (hsrc i hlt)
          refine opW_sound hR h3 s1 hrel (fun v S2 cx2 w2 u hqv q1 q2 q3 => ?_) (hnx i o hi) hi
          obtain ⟨ws2, l1, l2, l3⟩ := hqv
          refine hK _ _ ⟨by rw [put_defers]; exact hd, W2, i :: done, ws2, S2, cx2, l3, fun j hj => ?_, fun j hj => ?_, (List.nodup_cons.1 hnd).2, q1, x1.trans q2, ?_⟩
          · by_cases hij : i = j
            · subst hij
              have hlt' : i < listed.size := by omega
              simp [hlt']
            · rw [getD_set_ne false hij]
              rcases List.mem_cons.1 hj with q | q
              · exact absurd q.symm hij
              · exact hdone j q
          · have hij : i ≠ j := fun q => (List.nodup_cons.1 hnd).1 (q ▸ hj)
            rw [getD_set_ne false hij]; exact hW' j (List.mem_cons_of_mem _ hj)
          · exact EnvOk.step hr hnt hsz hcl (fun k y _ hy => l1.get hy) env hi hun q2 (fun t ht => by
              obtain ⟨x, k1, k2⟩ := l2 t ht
              exact ⟨x, k1, k2 _ _ _ _ (q3 t ht)⟩)
        · have := hW' w0 List.mem_cons_self
          rw [hq] at this; cases this
  · intro listed a' w' hall' ⟨hd, W', done, ws', S', cx', hD, hdone, hW', hnd, s1, x1, env⟩
    cases W' with
    | nil =>
      obtain ⟨os, hc, hrl, E, hE, hQ⟩ := hD
      exact hk (.normal, E, S') hQ cx' a' w' s1 x1 (finB_rel hall' env hE hfin) hd
    | cons w0 W2 =>
      obtain ⟨os, hc, hrl, o2, e, h1, h2, h3⟩ := hD
      have := hall' w0 (Array.getElem?_eq_some_iff.1 h1).1
      rw [hW' w0 List.mem_cons_self] at this; cases this
  · have : ((List.range ops.size).filter fun i => !(Array.replicate ops.size false).getD i false) = List.range ops.size := by
      rw [List.filter_eq_self]; intro i hi; rw [repf]; rfl
    rw [this]; simp
  · refine ⟨rfl, W, [], ws, S, cx, h, fun i hi => (by cases hi), fun i hi => repf i, hWn, d1, d2, he.size, fun k o t _ _ hl _ => ?_, fun t x hx _ => ?_⟩
    · rw [repf] at hl; cases hl
    · obtain ⟨v, v1, v2⟩ := he.rel t x hx
      exact ⟨v, v1, v2.mono d2⟩
end
end Go.Ev
namespace Go.Ev
theorem mapE_inj {α : Type} {enc : α → D} (h : ∀ x y, enc x = enc y → x = y) : ∀ {l m : List α}, l.map enc = m.map enc → l = m
  | [], [], _ => rfl
  | [], b :: m, q => by simp at q
  | a :: l, [], q => by simp at q
  | a :: l, b :: m, q => by
    simp only [List.map_cons, List.cons.injEq] at q
    rw [h a b q.1, mapE_inj h q.2]
theorem int_inj {k : IntKind} (a b : Int) (h : D.int k a = D.int k b) : a = b := by injection h
theorem str_inj (a b : Str) (h : D.str a = D.str b) : a = b := by injection h
theorem bool_inj (a b : Bool) (h : D.bool a = D.bool b) : a = b := by injection h
theorem sl_inj {α : Type} {enc : α → D} (h : ∀ x y, enc x = enc y → x = y) {t : Bool} (l m : List α) (q : D.sl (l.map enc) t = D.sl (m.map enc) t) : l = m := mapE_inj h (by injection q)
end Go.Ev


import Derived.Test.YtdelaagbhhnniaaGreatDoorEvStore
namespace Go.Ev
set_option linter.unusedVariables false
set_option linter.unusedSimpArgs false

theorem DRel.val {w : World} {fr : Nat → Nat → Prop} {x : D} {v : Value} (h : DRel w fr x v) (hx : x.isAgg = false) : CRel w fr x [v] := by
  obtain ⟨h1, h2⟩ := h
  have hva : vAgg v = false := by rw [← h2]; exact hx
  have hc : v.cells.toList = [v] := by cases v <;> simp_all [vAgg, Value.cells]
  rw [hc] at h1; exact h1

theorem ARel.dd {cx : Cx} {S : St} {w : World} {x : D} {v : Value} (h : ARel cx S w (.d x) v) : DRel w cx.fr x v := by cases h; assumption
theorem ARel.int {cx : Cx} {S : St} {w : World} {k : IntKind} {n : Int} {v : Value} (h : ARel cx S w (.d (.int k n)) v) : v = .int k n := by
  have := h.dd.val rfl; cases this; rfl
theorem ARel.bool {cx : Cx} {S : St} {w : World} {b : Bool} {v : Value} (h : ARel cx S w (.d (.bool b)) v) : v = .bool b := by
  have := h.dd.val rfl; cases this; rfl
theorem ARel.str {cx : Cx} {S : St} {w : World} {s : List UInt8} {v : Value} (h : ARel cx S w (.d (.str s)) v) : ∃ b : ByteArray, v = .string b ∧ b.data.toList = s := by
  have := h.dd.val rfl; cases this; exact ⟨_, rfl, rfl⟩
theorem ARel.of_int {cx : Cx} {S : St} {w : World} (k : IntKind) (n : Int) : ARel cx S w (.d (.int k n)) (.int k n) := .d _ _ (DRel.of_cell (.int k n) rfl)
theorem ARel.of_bool {cx : Cx} {S : St} {w : World} (b : Bool) : ARel cx S w (.d (.bool b)) (.bool b) := .d _ _ (DRel.of_cell (.bool b) rfl)
theorem ARel.of_str {cx : Cx} {S : St} {w : World} (b : ByteArray) : ARel cx S w (.d (.str b.data.toList)) (.string b) := .d _ _ (DRel.of_cell (.str b) rfl)
theorem ARel.of_str' {cx : Cx} {S : St} {w : World} (b : ByteArray) (s : List UInt8) (h : b.data.toList = s) : ARel cx S w (.d (.str s)) (.string b) := by subst h; exact .of_str b

theorem intBin_sound {P : Program} {cx : Cx} {S : St} {w : World} {op : BinOp} {k : IntKind} {a b : Int} {r : D} (h : intBin op k a b = some r) (t : Nat) (hs : op ≠ .shl ∧ op ≠ .shr) :
    ∃ u, (binOp op t (.int k a) (.int k b)).run P w = .ok u w ∧ ARel cx S w (.d r) u := by
  cases op <;> simp only [intBin, Option.some.injEq, reduceCtorEq] at h
  case quo =>
    split at h
    · cases h
    · rename_i hb
      simp only [Option.some.injEq] at h; subst h
      exact ⟨_, by simp [binOp, Op.intDiv, hb], .of_int _ _⟩
  case rem =>
    split at h
    · cases h
    · rename_i hb
      simp only [Option.some.injEq] at h; subst h
      exact ⟨_, by simp [binOp, Op.intDiv, hb], .of_int _ _⟩
  all_goals subst h
  case add => exact ⟨_, by simp [binOp, Op.intArith], .of_int _ _⟩
  case sub => exact ⟨_, by simp [binOp, Op.intArith], .of_int _ _⟩
  case mul => exact ⟨_, by simp [binOp, Op.intArith], .of_int _ _⟩
  case and => exact ⟨_, by simp [binOp, Op.intBits], .of_int _ _⟩
  case or => exact ⟨_, by simp [binOp, Op.intBits], .of_int _ _⟩
  case xor => exact ⟨_, by simp [binOp, Op.intBits], .of_int _ _⟩
  case andNot => exact ⟨_, by simp [binOp, Op.intBits], .of_int _ _⟩
  case eql => exact ⟨_, by simp [binOp, Op.intCmp], .of_bool _⟩
  case neq => exact ⟨_, by simp [binOp, Op.intCmp], .of_bool _⟩
  case lss => exact ⟨_, by simp [binOp, Op.intCmp], .of_bool _⟩
  case leq => exact ⟨_, by simp [binOp, Op.intCmp], .of_bool _⟩
  case gtr => exact ⟨_, by simp [binOp, Op.intCmp], .of_bool _⟩
  case geq => exact ⟨_, by simp [binOp, Op.intCmp], .of_bool _⟩

theorem toList_data (s : ByteArray) : s.toList = s.data.toList := by
  have loop : ∀ (n i : Nat) (r : List UInt8), s.size - i = n → ByteArray.toList.loop s i r = r.reverse ++ s.data.toList.drop i := by
    intro n
    induction n with
    | zero =>
      intro i r h
      unfold ByteArray.toList.loop
      rw [if_neg (by omega)]
      have : s.data.toList.length ≤ i := by
        have : s.data.toList.length = s.size := Array.length_toList
        omega
      simp [List.drop_eq_nil_of_le this]
    | succ n ih =>
      intro i r h
      unfold ByteArray.toList.loop
      rw [if_pos (by omega), ih (i + 1) _ (by omega)]
      have hlt : i < s.data.toList.length := by
        have : s.data.toList.length = s.size := Array.length_toList
        omega
      rw [List.drop_eq_getElem_cons hlt]
      have hi : i < s.data.size := by simpa using hlt
      have : s.get! i = s.data.toList[i] := by
        simp only [ByteArray.get!, getElem!_pos s.data i hi, Array.getElem_toList]
      simp [this]
  unfold ByteArray.toList
  rw [loop s.size 0 [] (by omega)]
  simp

theorem strLt_eq (a b : List UInt8) : strLt a b = Op.bytesLess a b := by
  induction a generalizing b with
  | nil => cases b <;> simp [strLt, Op.bytesLess]
  | cons x a ih => cases b <;> simp [strLt, Op.bytesLess, ih]

theorem strBin_sound {P : Program} {cx : Cx} {S : St} {w : World} {op : BinOp} {a b : ByteArray} {r : D} (h : strBin op a.data.toList b.data.toList = some r) (t : Nat) :
    ∃ u, (binOp op t (.string a) (.string b)).run P w = .ok u w ∧ ARel cx S w (.d r) u := by
  cases op <;> simp only [strBin, Option.some.injEq, reduceCtorEq] at h
  case add =>
    split at h
    · rename_i hle
      simp only [Option.some.injEq] at h; subst h
      have h1 : a.data.toList.length = a.size := Array.length_toList
      have h2 : b.data.toList.length = b.size := Array.length_toList
      refine ⟨.string (a ++ b), ?_, .of_str' _ _ (by simp)⟩
      have : ¬ ((a.size : Int) + b.size > IntKind.i64.max) := by
        have : IntKind.i64.max = 9223372036854775807 := by decide
        rw [this]; omega
      simp only [binOp, Op.stringOp]
      rw [if_neg (by simpa using this)]; rfl
    · cases h
  all_goals subst h
  case eql => exact ⟨_, by simp only [binOp, Op.stringOp, toList_data, Sem.run_pure], .of_bool _⟩
  case neq => exact ⟨_, by simp only [binOp, Op.stringOp, toList_data, Sem.run_pure], .of_bool _⟩
  case lss => exact ⟨_, by simp only [binOp, Op.stringOp, toList_data, ← strLt_eq, Sem.run_pure], .of_bool _⟩
  case leq => exact ⟨_, by simp only [binOp, Op.stringOp, toList_data, ← strLt_eq, Sem.run_pure], .of_bool _⟩
  case gtr => exact ⟨_, by simp only [binOp, Op.stringOp, toList_data, ← strLt_eq, Sem.run_pure], .of_bool _⟩
  case geq => exact ⟨_, by simp only [binOp, Op.stringOp, toList_data, ← strLt_eq, Sem.run_pure], .of_bool _⟩

theorem shiftD_sound {P : Program} {cx : Cx} {S : St} {w : World} {op : BinOp} {k k' : IntKind} {a b : Int} {r : D} (h : shiftD op k a b = some r) (t : Nat) (ho : op = .shl ∨ op = .shr) :
    ∃ u, (binOp op t (.int k a) (.int k' b)).run P w = .ok u w ∧ ARel cx S w (.d r) u := by
  unfold shiftD at h
  split at h
  · cases h
  · rename_i hb
    rcases ho with rfl | rfl
    · simp only [Option.some.injEq] at h; subst h
      exact ⟨_, by simp [binOp, Op.shift, hb], .of_int _ _⟩
    · simp only [Option.some.injEq] at h; subst h
      exact ⟨_, by simp [binOp, Op.shift, hb], .of_int _ _⟩

end Go.Ev

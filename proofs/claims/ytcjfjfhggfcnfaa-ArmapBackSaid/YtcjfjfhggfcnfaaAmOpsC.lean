/- Operators on numbers, bools and texts, held against the model's. -/
import Derived.Test.YtcjfjfhggfcnfaaAmOpsB
import Derived.Laws.Strings
set_option linter.unusedSimpArgs false
set_option linter.unusedVariables false
namespace Go.Proofs.Ytcjfjfhggfcnfaa.Am
open Go
variable {P : Program} {w : World} {e : Env} {H H' : AHeap}

theorem notLt_eq (a b : Int) : notB (ltI a b) = decide (b ≤ a) := by
  rw [notB_eq, ltI_eq]; by_cases h : a < b
  · rw [decide_eq_true h, decide_eq_false (by omega)]; rfl
  · rw [decide_eq_false h, decide_eq_true (by omega)]; rfl
theorem arith_ok {op : BinOp} {t : TypeId} {k : IntKind} {m n : Int} {r : AV} (h : arith op k m n = some r) : ∃ v, (binOp op t (.int k m) (.int k n)).run P w = .ok v w ∧ VR e w r v := by
  cases op <;> simp only [arith] at h <;> try (cases h; done)
  case quo =>
    rw [isZero_eq] at h
    by_cases h0 : n = 0
    · rw [decide_eq_true h0] at h; cases h
    · rw [decide_eq_false h0] at h
      cases h
      refine ⟨_, ?_, by simp only [VR]; rfl⟩
      rw [wrapF_eq, tdivI_eq]
      simp [binOp, Op.intDiv, h0, run_pure]
  case rem =>
    rw [isZero_eq] at h
    by_cases h0 : n = 0
    · rw [decide_eq_true h0] at h; cases h
    · rw [decide_eq_false h0] at h
      cases h
      refine ⟨_, ?_, by simp only [VR]; rfl⟩
      rw [tmodI_eq]
      simp [binOp, Op.intDiv, h0, run_pure]
  all_goals
    cases h
    refine ⟨_, ?_, by simp only [VR]; rfl⟩
    first
      | (rw [wrapF_eq, addI_eq]; simp [binOp, Op.intArith, run_pure]; done)
      | (rw [wrapF_eq, addI_eq, negI_eq, ← Int.sub_eq_add_neg]; simp [binOp, Op.intArith, run_pure]; done)
      | (rw [wrapF_eq, mulI_eq]; simp [binOp, Op.intArith, run_pure]; done)
      | (rw [bits_and]; simp [binOp, Op.intBits, run_pure]; done)
      | (rw [bits_or]; simp [binOp, Op.intBits, run_pure]; done)
      | (rw [bits_xor]; simp [binOp, Op.intBits, run_pure]; done)
      | (rw [bits_andNot]; simp [binOp, Op.intBits, run_pure]; done)
      | (rw [eqI_beq]; simp [binOp, Op.intCmp, run_pure]; done)
      | (rw [notB_eq, eqI_beq]; simp [binOp, Op.intCmp, run_pure, bne]; done)
      | (rw [ltI_eq]; simp [binOp, Op.intCmp, run_pure]; done)
      | (rw [notLt_eq]; simp [binOp, Op.intCmp, run_pure]; done)
theorem shlF_ok {t : TypeId} {k yk : IntKind} {m n : Int} {r : AV} (h : shlF k m n = some r) : ∃ v, (binOp .shl t (.int k m) (.int yk n)).run P w = .ok v w ∧ VR e w r v := by
  cases n with
  | negSucc n => cases h
  | ofNat n =>
    simp only [shlF, Option.some.injEq] at h
    subst h
    refine ⟨_, ?_, by simp only [VR]; rfl⟩
    rw [shl_eq]
    have h0 : ¬ (Int.ofNat n < 0) := by simp
    simp only [binOp, Op.shift, h0, if_false]
    rfl
theorem shrF_ok {t : TypeId} {k yk : IntKind} {m n : Int} {r : AV} (h : shrF k m n = some r) : ∃ v, (binOp .shr t (.int k m) (.int yk n)).run P w = .ok v w ∧ VR e w r v := by
  cases n with
  | negSucc n => cases h
  | ofNat n =>
    have h0 : ¬ (Int.ofNat n < 0) := by simp
    cases m with
    | ofNat m =>
      simp only [shrF, Option.some.injEq] at h
      subst h
      refine ⟨_, ?_, by simp only [VR]; rfl⟩
      rw [minN_eq, bitsOf_eq, shr_pos]
      simp only [binOp, Op.shift, h0, if_false]
      rfl
    | negSucc m =>
      simp only [shrF, Option.some.injEq] at h
      subst h
      refine ⟨_, ?_, by simp only [VR]; rfl⟩
      rw [minN_eq, bitsOf_eq, shr_neg]
      simp only [binOp, Op.shift, h0, if_false]
      rfl

theorem strEq_eq (a b : List UInt8) : strEq (a.map UInt8.toNat) (b.map UInt8.toNat) = (a == b) := by
  induction a generalizing b with
  | nil => cases b <;> rfl
  | cons x a ih =>
    cases b with
    | nil => rfl
    | cons y b =>
      show (Bool.casesOn (Nat.beq x.toNat y.toNat) false (strEq (a.map UInt8.toNat) (b.map UInt8.toNat)) : Bool) = _
      rw [ih, nbeq]
      by_cases h : x = y
      · subst h; simp
      · have : ¬ x.toNat = y.toNat := fun hh => h (UInt8.toNat_inj.mp hh)
        simp [this, h]
theorem strLt_eq (a b : List UInt8) : strLt (a.map UInt8.toNat) (b.map UInt8.toNat) = Op.bytesLess a b := by
  induction a generalizing b with
  | nil => cases b <;> rfl
  | cons x a ih =>
    cases b with
    | nil => rfl
    | cons y b =>
      show (Bool.casesOn (Nat.ble (Nat.succ x.toNat) y.toNat) (Bool.casesOn (Nat.beq x.toNat y.toNat) false (strLt (a.map UInt8.toNat) (b.map UInt8.toNat))) true : Bool) = _
      rw [ih, nbeq, nble, Op.bytesLess]
      have h1 : (Nat.succ x.toNat ≤ y.toNat) ↔ x < y := by rw [UInt8.lt_iff_toNat_lt]; exact Nat.succ_le_iff
      by_cases h : x = y
      · subst h
        have h3 : ¬ x < x := by rw [UInt8.lt_iff_toNat_lt]; omega
        rw [show decide (Nat.succ x.toNat ≤ x.toNat) = false from decide_eq_false (by omega)]
        simp [h3]
      · have : ¬ x.toNat = y.toNat := fun hh => h (UInt8.toNat_inj.mp hh)
        by_cases h2 : x < y <;> simp [this, h, h1, h2]
theorem bytesLess_total (a b : List UInt8) : (!Op.bytesLess b a) = (Op.bytesLess a b || a == b) := by
  induction a generalizing b with
  | nil => cases b <;> simp [Op.bytesLess]
  | cons x a ih =>
    cases b with
    | nil => simp [Op.bytesLess]
    | cons y b =>
      simp only [Op.bytesLess]
      have := ih b
      by_cases h : x = y
      · subst h; simpa using this
      · have h' : ¬ y = x := fun hh => h hh.symm
        by_cases h2 : x < y
        · have h3 : ¬ y < x := by rw [UInt8.lt_iff_toNat_lt] at h2 ⊢; omega
          simp [h, h', h2, h3]
        · have h3 : y < x := by
            rw [UInt8.lt_iff_toNat_lt] at h2 ⊢
            have : ¬ x.toNat = y.toNat := fun hh => h (UInt8.toNat_inj.mp hh)
            omega
          simp [h, h', h2, h3]
theorem str_size {s : ByteArray} {l : List Nat} (h : s.data.toList.map UInt8.toNat = l) : l.length = s.size := by subst h; rw [List.length_map]; rfl
theorem strOp_ok {op : BinOp} {t : TypeId} {a b : List Nat} {s r : ByteArray} {x : AV} (hs : s.data.toList.map UInt8.toNat = a) (hr : r.data.toList.map UInt8.toNat = b) (h : strOp op a b = some x) :
    ∃ v, (binOp op t (.string s) (.string r)).run P w = .ok v w ∧ VR e w x v := by
  have hl := str_size hs
  have hl' := str_size hr
  subst hs hr
  cases op <;> simp only [strOp] at h <;> try (cases h; done)
  case add =>
    rw [llen_eq, llen_eq, nble] at h
    by_cases h0 : (s.data.toList.map UInt8.toNat).length + (r.data.toList.map UInt8.toNat).length ≤ maxStr
    · rw [show decide ((s.data.toList.map UInt8.toNat).length.add (r.data.toList.map UInt8.toNat).length ≤ maxStr) = true from decide_eq_true h0] at h
      cases h
      refine ⟨.string (s ++ r), ?_, by simp only [VR]; exact ⟨_, rfl, by rw [lapp_eq, ByteArray.data_append, Array.toList_append, List.map_append]⟩⟩
      have hm : maxStr = 4611686018427387904 := rfl
      have : ¬ ((s.size + r.size : Nat) : Int) > IntKind.i64.max := by
        rw [hl, hl', hm] at h0
        rw [show IntKind.i64.max = 9223372036854775807 from rfl]
        omega
      simp only [binOp, Op.stringOp, this, if_false]
      rfl
    · rw [show decide ((s.data.toList.map UInt8.toNat).length.add (r.data.toList.map UInt8.toNat).length ≤ maxStr) = false from decide_eq_false h0] at h
      cases h
  all_goals
    cases h
    refine ⟨_, ?_, by simp only [VR]; rfl⟩
    simp only [strEq_eq, strLt_eq, notB_eq, ← bytesLess_total, Bool.not_not, binOp, Op.stringOp, ByteArray.toList_eq, run_pure]
    try rfl
theorem unA_ok {op : UnOp} {x y : AV} {v : Value} (hv : VR e w x v) (h : unA op x = some y) : ∃ u, (Op.unary op v).run P w = .ok u w ∧ VR e w y u := by
  cases op <;> cases x <;> simp only [unA] at h <;> try (cases h; done)
  · simp only [VR] at hv; subst hv
    cases h
    refine ⟨_, ?_, by simp only [VR]; rfl⟩
    rw [wrapF_eq, addI_eq, negI_eq]
    simp only [Op.unary, Op.intArith, Int.sub_eq_add_neg]
    rfl
  · simp only [VR] at hv; subst hv
    cases h
    refine ⟨_, ?_, by simp only [VR]; rfl⟩
    rw [bits_not]
    simp only [Op.unary, Op.intBits]
    rfl
  · simp only [VR] at hv; subst hv
    cases h
    refine ⟨_, ?_, by simp only [VR]; rfl⟩
    rw [notB_eq]; rfl
end Go.Proofs.Ytcjfjfhggfcnfaa.Am

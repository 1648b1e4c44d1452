/- The abstract machine's own numbers are the model's. -/
import Derived.Test.YtcjfjfhggfcnfaaAmList
import GoSem.Core.View
set_option linter.unusedSimpArgs false
set_option linter.unusedVariables false
namespace Go.Proofs.Ytcjfjfhggfcnfaa.Am
open Go

theorem nble (a b : Nat) : Nat.ble a b = decide (a ≤ b) := by
  rw [Bool.eq_iff_iff]; simp [Nat.ble_eq]
theorem nbeq (a b : Nat) : Nat.beq a b = decide (a = b) := by
  rw [Bool.eq_iff_iff]; simp

theorem bits_pow (k : IntKind) : (2 : Int) ^ k.bits = (modulus k : Nat) := by cases k <;> rfl
theorem bits_half (k : IntKind) : (2 : Int) ^ (k.bits - 1) + (2 : Int) ^ (k.bits - 1) = (modulus k : Nat) := by cases k <;> rfl
theorem bits_half' (k : IntKind) : (2 : Int) ^ (k.bits - 1) = ((modulus k : Nat) : Int) / 2 := by cases k <;> rfl
theorem signedK_eq (k : IntKind) : signedK k = k.signed := by cases k <;> rfl
theorem modulus_pos (k : IntKind) : 2 ≤ modulus k := by cases k <;> decide
theorem modulus_even (k : IntKind) : modulus k % 2 = 0 := by cases k <;> rfl

theorem low_eq (M : Nat) (hM : 0 < M) (n : Int) : ((low M n : Nat) : Int) = n % (M : Int) := by
  cases n with
  | ofNat m => rfl
  | negSucc m =>
    show (((M - 1 - m % M : Nat) : Int)) = _
    rw [Int.negSucc_emod m (by omega : (0 : Int) < M)]
    have := Nat.mod_lt m hM
    omega
theorem low_lt (M : Nat) (hM : 0 < M) (n : Int) : low M n < M := by
  cases n with
  | ofNat m => exact Nat.mod_lt m hM
  | negSucc m => show M - 1 - m % M < M; omega

/-- wrap, over a number's rest -/
theorem wrap_of_rest (k : IntKind) (n : Int) : k.wrap n = if k.signed = true ∧ (modulus k : Int) ≤ 2 * (n % (modulus k : Int)) then n % (modulus k : Int) - (modulus k : Int) else n % (modulus k : Int) := by
  have h2 := modulus_even k
  unfold IntKind.wrap
  rw [bits_half', bits_pow]
  generalize modulus k = M at *
  cases hs : k.signed
  · simp
  · by_cases h : (M : Int) ≤ 2 * (n % (M : Int))
    · have h' : (M : Int) / 2 ≤ n % (M : Int) := by omega
      simp [h, h']
    · have h' : ¬ (M : Int) / 2 ≤ n % (M : Int) := by omega
      simp [h, h']
theorem back_eq (k : IntKind) (m : Nat) (h : m < modulus k) : back k m = k.wrap m := by
  rw [wrap_of_rest]
  have e : (m : Int) % (modulus k : Int) = m := Int.emod_eq_of_lt (by omega) (by omega)
  rw [e, ← signedK_eq]
  unfold back
  rw [nble]
  cases hs : signedK k
  · simp
  · by_cases h2 : modulus k ≤ m + m
    · rw [if_pos ⟨rfl, by omega⟩]
      have : decide (modulus k ≤ Nat.add m m) = true := decide_eq_true h2
      rw [this]
      show Int.negSucc (modulus k - 1 - m) = _
      omega
    · rw [if_neg (by omega)]
      have : decide (modulus k ≤ Nat.add m m) = false := decide_eq_false h2
      rw [this]; rfl
theorem wrap_low (k : IntKind) (n : Int) : k.wrap (low (modulus k) n : Nat) = k.wrap n := by
  have hp := modulus_pos k
  rw [wrap_of_rest, wrap_of_rest, low_eq _ (by omega), Int.emod_emod]
theorem wrap_signed (k : IntKind) (n : Int) (hs : k.signed = true) (h1 : -(modulus k : Int) ≤ 2 * n) (h2 : 2 * n < modulus k) : k.wrap n = n := by
  rw [wrap_of_rest]
  have hp := modulus_pos k
  have he := modulus_even k
  generalize modulus k = M at *
  by_cases h : 0 ≤ n
  · have e : n % (M : Int) = n := Int.emod_eq_of_lt h (by omega)
    rw [e, if_neg (by omega)]
  · have e : n % (M : Int) = n + M := by rw [← Int.add_emod_right]; exact Int.emod_eq_of_lt (by omega) (by omega)
    rw [e, if_pos ⟨hs, by omega⟩]; omega
theorem wrap_unsigned (k : IntKind) (n : Int) (hs : k.signed = false) (h1 : 0 ≤ n) (h2 : n < modulus k) : k.wrap n = n := by
  rw [wrap_of_rest, Int.emod_eq_of_lt h1 h2, hs]; simp
theorem inR_wrap (k : IntKind) (n : Int) (h : inR k n = true) : k.wrap n = n := by
  cases k <;> first
    | (refine wrap_signed _ _ rfl ?_ ?_ <;> cases n <;> simp only [inR, nble, decide_eq_true_eq, Bool.false_eq_true] at h <;> simp only [modulus, Int.ofNat_eq_natCast] <;> omega)
    | (refine wrap_unsigned _ _ rfl ?_ ?_ <;> cases n <;> simp only [inR, nble, decide_eq_true_eq, Bool.false_eq_true] at h <;> simp only [modulus, Int.ofNat_eq_natCast] <;> omega)
theorem wrapF_eq (k : IntKind) (n : Int) : wrapF k n = k.wrap n := by
  unfold wrapF
  cases h : inR k n
  · show back k (low (modulus k) n) = _
    have hp := modulus_pos k
    rw [back_eq _ _ (low_lt _ (by omega) _), wrap_low]
  · exact (inR_wrap k n h).symm

theorem subN_eq (a b : Nat) : subN a b = (a : Int) - b := by
  unfold subN; rw [nble]
  by_cases h : b ≤ a
  · rw [decide_eq_true h]; show ((a - b : Nat) : Int) = _; omega
  · rw [decide_eq_false h]; show Int.negSucc (b - a - 1) = _; omega
theorem addI_eq (a b : Int) : addI a b = a + b := by
  cases a <;> cases b <;> simp only [addI, subN_eq]
  · rfl
  · simp only [Int.ofNat_eq_natCast]; omega
  · simp only [Int.ofNat_eq_natCast]; omega
  · rename_i a b; show Int.negSucc (a + b + 1) = _; omega
theorem negI_eq (a : Int) : negI a = -a := by
  cases a <;> simp only [negI, subN_eq] <;> simp only [Int.ofNat_eq_natCast] <;> omega
theorem mulI_eq (a b : Int) : mulI a b = a * b := by
  cases a with
  | ofNat a => cases b with
    | ofNat b => rfl
    | negSucc b =>
      show subN 0 (a * (b + 1)) = (a : Int) * Int.negSucc b
      rw [subN_eq, show Int.negSucc b = -((b : Int) + 1) by omega, Int.mul_neg, Int.natCast_mul]; simp
  | negSucc a => cases b with
    | ofNat b =>
      show subN 0 ((a + 1) * b) = Int.negSucc a * (b : Int)
      rw [subN_eq, show Int.negSucc a = -((a : Int) + 1) by omega, Int.neg_mul, Int.natCast_mul]; simp
    | negSucc b => rfl
theorem ltI_eq (a b : Int) : ltI a b = decide (a < b) := by
  cases a <;> cases b <;> simp only [ltI, nble] <;> (rw [Bool.eq_iff_iff]; simp only [decide_eq_true_eq, Bool.false_eq_true, true_iff, false_iff, Int.ofNat_eq_natCast]; omega)
theorem eqI_eq (a b : Int) : eqI a b = decide (a = b) := by
  cases a <;> cases b <;> simp only [eqI, nbeq] <;> (rw [Bool.eq_iff_iff]; simp only [decide_eq_true_eq, Bool.false_eq_true, false_iff, Int.ofNat_eq_natCast]; omega)
theorem eqI_beq (a b : Int) : eqI a b = (a == b) := by rw [eqI_eq]; rfl
theorem notB_eq (b : Bool) : notB b = !b := by cases b <;> rfl
theorem isZero_eq (a : Int) : isZero a = decide (a = 0) := by
  cases a with
  | ofNat a => simp only [isZero, nbeq]; rw [Bool.eq_iff_iff]; simp
  | negSucc a => simp only [isZero]; rw [Bool.eq_iff_iff]; simp
theorem tdivI_eq (a b : Int) : tdivI a b = a.tdiv b := by
  cases a <;> cases b <;> simp only [tdivI, subN_eq]
  · rfl
  · rename_i a b
    show _ = -((a / (b + 1) : Nat) : Int)
    show ((0 : Nat) : Int) - ((a / (b + 1) : Nat) : Int) = _; omega
  · rename_i a b
    show _ = -(((a + 1) / b : Nat) : Int)
    show ((0 : Nat) : Int) - (((a + 1) / b : Nat) : Int) = _; omega
  · rfl
theorem absN_eq (a : Int) : absN a = a.natAbs := by cases a <;> rfl
theorem tmodI_eq (a b : Int) : tmodI a b = a.tmod b := by
  cases a with
  | ofNat a => cases b <;> rfl
  | negSucc a =>
    have : ∀ m : Nat, tmodI (Int.negSucc a) b = -(((a + 1) % absN b : Nat) : Int) := by
      intro _
      show subN 0 ((a + 1) % absN b) = _
      rw [subN_eq]; omega
    rw [this 0]
    cases b <;> rfl
theorem minN_eq (a b : Nat) : minN a b = min a b := by
  unfold minN; rw [nble]
  by_cases h : a ≤ b
  · rw [decide_eq_true h]; show a = _; omega
  · rw [decide_eq_false h]; show b = _; omega
theorem bitsOf_eq (k : IntKind) : bitsOf k = k.bits := by cases k <;> rfl
theorem modulus_bits (k : IntKind) : modulus k = 2 ^ k.bits := by cases k <;> rfl

theorem toNat_ofInt (k : IntKind) (x : Int) : (BitVec.ofInt k.bits x).toNat = low (modulus k) x := by
  have hp := modulus_pos k
  have := low_eq (modulus k) (by omega) x
  rw [BitVec.toNat_ofInt, ← modulus_bits]
  omega
theorem and_lt {M a b : Nat} (h : a < M) : a &&& b < M := Nat.lt_of_le_of_lt Nat.and_le_left h
theorem bits_and (k : IntKind) (x y : Int) : back k (Nat.land (low (modulus k) x) (low (modulus k) y)) = k.wrap (BitVec.ofInt k.bits x &&& BitVec.ofInt k.bits y).toNat := by
  have hp := modulus_pos k
  rw [BitVec.toNat_and, toNat_ofInt, toNat_ofInt]
  exact back_eq _ _ (and_lt (low_lt _ (by omega) _))
theorem bits_or (k : IntKind) (x y : Int) : back k (Nat.lor (low (modulus k) x) (low (modulus k) y)) = k.wrap (BitVec.ofInt k.bits x ||| BitVec.ofInt k.bits y).toNat := by
  have h := (BitVec.ofInt k.bits x ||| BitVec.ofInt k.bits y).isLt
  rw [BitVec.toNat_or, toNat_ofInt, toNat_ofInt, ← modulus_bits] at h
  rw [BitVec.toNat_or, toNat_ofInt, toNat_ofInt]
  exact back_eq _ _ h
theorem bits_xor (k : IntKind) (x y : Int) : back k (Nat.xor (low (modulus k) x) (low (modulus k) y)) = k.wrap (BitVec.ofInt k.bits x ^^^ BitVec.ofInt k.bits y).toNat := by
  have h := (BitVec.ofInt k.bits x ^^^ BitVec.ofInt k.bits y).isLt
  rw [BitVec.toNat_xor, toNat_ofInt, toNat_ofInt, ← modulus_bits] at h
  rw [BitVec.toNat_xor, toNat_ofInt, toNat_ofInt]
  exact back_eq _ _ h
theorem bits_andNot (k : IntKind) (x y : Int) : back k (Nat.land (low (modulus k) x) (Nat.sub (Nat.sub (modulus k) 1) (low (modulus k) y))) = k.wrap (BitVec.ofInt k.bits x &&& ~~~ BitVec.ofInt k.bits y).toNat := by
  have hp := modulus_pos k
  rw [BitVec.toNat_and, BitVec.toNat_not, toNat_ofInt, toNat_ofInt, ← modulus_bits]
  exact back_eq _ _ (and_lt (low_lt _ (by omega) _))
theorem bits_not (k : IntKind) (n : Int) : back k (Nat.sub (Nat.sub (modulus k) 1) (low (modulus k) n)) = k.wrap (BitVec.ofInt k.bits (if k.signed then -1 else k.max) ^^^ BitVec.ofInt k.bits n).toNat := by
  have hp := modulus_pos k
  have e : BitVec.ofInt k.bits (if k.signed then -1 else k.max) = BitVec.allOnes k.bits := by cases k <;> rfl
  rw [e, BitVec.allOnes_xor, BitVec.toNat_not, toNat_ofInt, ← modulus_bits]
  exact back_eq _ _ (by have := low_lt (modulus k) (by omega) n; show modulus k - 1 - low (modulus k) n < _; omega)
theorem shl_eq (k : IntKind) (x : Int) (n : Nat) : wrapF k (mulI x (.ofNat (Nat.pow 2 (minN n (bitsOf k))))) = k.wrap (x * 2 ^ (min n k.bits)) := by
  rw [wrapF_eq, mulI_eq, minN_eq, bitsOf_eq]
  have : Int.ofNat (Nat.pow 2 (min n k.bits)) = (2 : Int) ^ (min n k.bits) := by
    show ((2 ^ min n k.bits : Nat) : Int) = _
    simp
  rw [this]
theorem shr_pos (m n : Nat) : Int.ofNat (Nat.div m (Nat.pow 2 n)) = (Int.ofNat m).fdiv (2 ^ n) := by
  have : ((2 : Int) ^ n) = ((2 ^ n : Nat) : Int) := by simp
  rw [this]
  show ((m / 2 ^ n : Nat) : Int) = (m : Int).fdiv ((2 ^ n : Nat) : Int)
  rw [Int.fdiv_eq_ediv_of_nonneg _ (Int.natCast_nonneg _)]; simp
theorem shr_neg (m n : Nat) : Int.negSucc (Nat.div m (Nat.pow 2 n)) = (Int.negSucc m).fdiv (2 ^ n) := by
  have hp : 0 < 2 ^ n := Nat.two_pow_pos n
  have : ((2 : Int) ^ n) = ((2 ^ n : Nat) : Int) := by simp
  rw [this, Int.fdiv_eq_ediv_of_nonneg _ (Int.natCast_nonneg _)]
  show Int.negSucc (m / 2 ^ n) = _
  generalize 2 ^ n = p at *
  rw [Int.negSucc_ediv m (by omega)]
  show _ = -((m : Int) / (p : Int) + 1)
  have : (m : Int) / (p : Int) = ((m / p : Nat) : Int) := by simp
  rw [this]; omega
end Go.Proofs.Ytcjfjfhggfcnfaa.Am

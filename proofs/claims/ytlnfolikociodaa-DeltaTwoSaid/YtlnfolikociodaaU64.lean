/- Numbers of 64 bits without a sign, as bit vectors. -/
import Derived.WalkKit
import Derived.IntWalk
namespace Go.Proofs.Ytlnfolikociodaa
open Go.RowKit
/-- A bit vector's number. -/
def X (x : BitVec 64) : Int := (x.toNat : Int)
theorem X_inj {x y : BitVec 64} (h : X x = X y) : x = y := by
  unfold X at h
  exact BitVec.eq_of_toNat_eq (by omega)
theorem X_ofInt (m : BitVec 64) : BitVec.ofInt 64 (X m) = m := by
  unfold X
  apply BitVec.eq_of_toNat_eq
  rw [BitVec.toNat_ofInt]
  have := m.isLt
  rw [show ((m.toNat : Int) % ((2 ^ 64 : Nat) : Int)) = ((m.toNat % 2 ^ 64 : Nat) : Int) from (Int.natCast_emod _ _).symm, Nat.mod_eq_of_lt this]
  rfl
theorem wrap_toNat (m : BitVec 64) : IntKind.u64.wrap ((m.toNat : Nat) : Int) = X m := by
  have h := m.isLt
  exact IntWalk.u64_in _ (by omega)
theorem wrap_nat (z : Nat) : IntKind.u64.wrap ((z : Nat) : Int) = X (BitVec.ofNat 64 z) := by
  unfold X
  rw [BitVec.toNat_ofNat, show IntKind.u64.wrap (z : Int) = (z : Int) % 18446744073709551616 from rfl]
  omega
theorem X_or (m n : BitVec 64) : bits BinOp.or IntKind.u64 (X m) (X n) = X (m ||| n) := by
  show IntKind.u64.wrap (((BitVec.ofInt 64 (X m) ||| BitVec.ofInt 64 (X n)).toNat : Nat) : Int) = _
  rw [X_ofInt, X_ofInt, wrap_toNat]
theorem X_and (m n : BitVec 64) : bits BinOp.and IntKind.u64 (X m) (X n) = X (m &&& n) := by
  show IntKind.u64.wrap (((BitVec.ofInt 64 (X m) &&& BitVec.ofInt 64 (X n)).toNat : Nat) : Int) = _
  rw [X_ofInt, X_ofInt, wrap_toNat]
theorem X_shr (m : BitVec 64) (i : Nat) : (X m).fdiv (2 ^ i) = X (m >>> i) := by
  unfold X
  rw [BitVec.toNat_ushiftRight, Nat.shiftRight_eq_div_pow, Int.fdiv_eq_ediv_of_nonneg _ (by exact_mod_cast Nat.zero_le (2 ^ i)), Int.natCast_ediv, Int.natCast_pow]
  rfl
/-- n ones from place a on. -/
def ones (a n : Nat) : BitVec 64 := BitVec.ofNat 64 ((2 ^ n - 1) * 2 ^ a)
theorem ones_bit {a n j : Nat} (_h : a + n ≤ 64) (hj : j < 64) : (ones a n).getLsbD j = decide (a ≤ j ∧ j < a + n) := by
  unfold ones
  rw [BitVec.getLsbD_ofNat, ← Nat.shiftLeft_eq, Nat.testBit_shiftLeft, Nat.testBit_two_pow_sub_one]
  simp only [hj, decide_true, Bool.true_and]
  rw [Bool.eq_iff_iff]
  simp
  omega
theorem ones_val {a n : Nat} (_h1 : 1 ≤ n) (h : a + n ≤ 64) : IntKind.u64.wrap (IntKind.u64.wrap (IntKind.u64.wrap (2 ^ n) - 1) * 2 ^ a) = X (ones a n) := by
  have e1 : IntKind.u64.wrap (IntKind.u64.wrap (2 ^ n) - 1) = ((2 ^ n - 1 : Nat) : Int) := by
    have hp : 1 ≤ 2 ^ n := Nat.one_le_two_pow
    have hle : 2 ^ n ≤ 2 ^ 64 := Nat.pow_le_pow_right (by omega) (by omega)
    have hc : ((2 : Int) ^ n) = ((2 ^ n : Nat) : Int) := (Int.natCast_pow 2 n).symm
    rw [hc]
    generalize 2 ^ n = z at *
    rw [show ∀ y : Int, IntKind.u64.wrap y = y % 18446744073709551616 from fun _ => rfl, show ∀ y : Int, IntKind.u64.wrap y = y % 18446744073709551616 from fun _ => rfl]
    omega
  rw [e1, show ((2 : Int) ^ a) = ((2 ^ a : Nat) : Int) from (Int.natCast_pow 2 a).symm, ← Int.natCast_mul, wrap_nat]
  rfl
/-- A bit, asked as the program asks it. -/
theorem bit_val (m : BitVec 64) (i : Nat) : bits BinOp.and IntKind.u64 ((X m).fdiv (2 ^ i)) 1 = if m.getLsbD i then 1 else 0 := by
  rw [X_shr, show (1 : Int) = X 1#64 from rfl, X_and]
  have h : m >>> i &&& 1#64 = if m.getLsbD i then 1#64 else 0#64 := by
    apply BitVec.eq_of_getLsbD_eq
    intro j hj
    rw [BitVec.getLsbD_and, BitVec.getLsbD_ushiftRight]
    by_cases e : j = 0
    · subst e
      simp
      split <;> simp_all
    · have : (1#64).getLsbD j = false := by simp [BitVec.getLsbD_one]; omega
      rw [this, Bool.and_false]
      split
      · exact this.symm
      · simp
  rw [h]
  split <;> rfl
theorem bit_val2 (m : BitVec 64) (i : Nat) : bits BinOp.and IntKind.u64 (X m / 2 ^ i) 1 = if m.getLsbD i then 1 else 0 := by
  have h := bit_val m i
  rw [Int.fdiv_eq_ediv_of_nonneg _ (by exact_mod_cast Nat.zero_le (2 ^ i))] at h
  exact h
end Go.Proofs.Ytlnfolikociodaa

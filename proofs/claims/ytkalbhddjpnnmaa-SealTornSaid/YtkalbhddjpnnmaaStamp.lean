/- Stamps as bytes: what eight bytes make, and what a number's bytes are; when a block is whole. No program in sight. -/
import Derived.Test.YtkalbhddjpnnmaaWalks
namespace Go.Proofs.Ytkalbhddjpnnmaa

/-- Eight bytes, the highest first. -/
def leN (g : Nat → BitVec 8) : Nat → BitVec 64
  | 0 => 0#64
  | n + 1 => (leN g n <<< 8) ||| (g (7 - n)).zeroExtend 64
theorem leN_bit (g : Nat → BitVec 8) (n : Nat) (hn : n ≤ 8) (i : Nat) : (leN g n).getLsbD i = (decide (i < 8 * n) && (g (8 - n + i / 8)).getLsbD (i % 8)) := by
  induction n generalizing i with
  | zero => simp [leN]
  | succ n ih =>
    simp only [leN, BitVec.getLsbD_or, BitVec.getLsbD_shiftLeft, BitVec.truncate_eq_setWidth, BitVec.getLsbD_setWidth]
    by_cases h : i < 8
    · have e1 : i / 8 = 0 := by omega
      have e2 : i % 8 = i := by omega
      have e3 : i < 64 := by omega
      have e4 : 8 - (n + 1) = 7 - n := by omega
      have e5 : i < 8 * (n + 1) := by omega
      simp [h, e1, e2, e3, e4, e5]
    · have hb : (g (7 - n)).getLsbD i = false := BitVec.getLsbD_of_ge _ _ (by omega)
      rw [ih (by omega) (i - 8), hb]
      have e1 : (i - 8) / 8 = i / 8 - 1 := by omega
      have e2 : (i - 8) % 8 = i % 8 := by omega
      have e3 : 8 - n + (i / 8 - 1) = 8 - (n + 1) + i / 8 := by omega
      rw [e1, e2, e3]
      by_cases h2 : i < 8 * (n + 1)
      · have h3 : i - 8 < 8 * n := by omega
        have h4 : i < 64 := by omega
        simp [h, h2, h3, h4]
      · have h3 : ¬ i - 8 < 8 * n := by omega
        simp [h2, h3]
theorem sb_bit (x : BitVec 64) (k i : Nat) : (sb x k).getLsbD i = (decide (i < 8) && x.getLsbD (8 * k + i)) := by
  simp [sb, BitVec.getLsbD_ushiftRight]
theorem sb_leN (g : Nat → BitVec 8) (k : Nat) (hk : k < 8) : sb (leN g 8) k = g k := by
  apply BitVec.eq_of_getLsbD_eq
  intro i hi
  rw [sb_bit, leN_bit g 8 (Nat.le_refl _)]
  have e1 : (8 * k + i) / 8 = k := by omega
  have e2 : (8 * k + i) % 8 = i := by omega
  have e3 : 8 * k + i < 8 * 8 := by omega
  simp [e1, e2, e3, hi]
theorem leN_sb (x : BitVec 64) (g : Nat → BitVec 8) (h : ∀ k, k < 8 → g k = sb x k) : leN g 8 = x := by
  apply BitVec.eq_of_getLsbD_eq
  intro i hi
  rw [leN_bit g 8 (Nat.le_refl _), h _ (by omega), sb_bit]
  have e1 : 8 * (8 - 8 + i / 8) + i % 8 = i := by omega
  have e2 : i % 8 < 8 := by omega
  have e3 : i < 8 * 8 := by omega
  rw [e1]
  simp [e2, e3]
/-- A sector's stamp. -/
def stampOf (f : Nat → BitVec 8) (i : Nat) : BitVec 64 := leN (fun k => f (64 * i + 56 + k)) 8
/-- Are the four stamps the same? -/
def Whole (f : Nat → BitVec 8) : Prop := ∀ i, i < 4 → stampOf f i = stampOf f 0
/-- The payload's bytes. -/
def openP (f : Nat → BitVec 8) : Nat → BitVec 8 := fun j => f (64 * (j / 56) + j % 56)

theorem whole_iff (f : Nat → BitVec 8) : (∀ j, j < 256 → sealF (stampOf f 0) (openP f) j = f j) ↔ Whole f := by
  have hp : ∀ j, j < 256 → j % 64 < 56 → sealF (stampOf f 0) (openP f) j = f j := fun j hj h => by
    unfold sealF openP
    rw [if_pos h]
    congr 1
    omega
  have hs : ∀ i k, i < 4 → k < 8 → sealF (stampOf f 0) (openP f) (64 * i + 56 + k) = f (56 + k) := fun i k hi hk => by
    unfold sealF
    rw [if_neg (by omega), show (64 * i + 56 + k) % 64 - 56 = k by omega]
    have := sb_leN (fun k => f (64 * 0 + 56 + k)) k hk
    simpa [stampOf] using this
  constructor
  · intro h i hi
    refine leN_sb _ _ fun k hk => ?_
    have h1 := h (64 * i + 56 + k) (by omega)
    rw [hs i k hi hk] at h1
    rw [← h1]
    have := sb_leN (fun k => f (64 * 0 + 56 + k)) k hk
    simpa [stampOf] using this.symm
  · intro h j hj
    by_cases h56 : j % 64 < 56
    · exact hp j hj h56
    · obtain ⟨i, k, hi, hk, rfl⟩ : ∃ i k, i < 4 ∧ k < 8 ∧ j = 64 * i + 56 + k := ⟨j / 64, j % 64 - 56, by omega, by omega, by omega⟩
      rw [hs i k hi hk]
      have h1 := congrArg (fun x => sb x k) (h i hi)
      simp only [stampOf] at h1
      rw [sb_leN _ k hk, sb_leN _ k hk] at h1
      simpa using h1.symm
theorem stampOf_sealF (x : BitVec 64) (p : Nat → BitVec 8) (i : Nat) : stampOf (sealF x p) i = x :=
  leN_sb x _ fun k hk => by
    unfold sealF
    rw [if_neg (by omega), show (64 * i + 56 + k) % 64 - 56 = k by omega]
theorem whole_sealF (x : BitVec 64) (p : Nat → BitVec 8) : Whole (sealF x p) := fun i _ => by rw [stampOf_sealF, stampOf_sealF]
theorem openP_sealF (x : BitVec 64) (p : Nat → BitVec 8) : ∀ j, j < 224 → openP (sealF x p) j = p j := fun j hj => by
  unfold openP sealF
  rw [if_pos (by omega)]
  congr 1
  omega

/-- The same number, the lowest first. -/
def loNat (g : Nat → BitVec 8) : Nat → Nat
  | 0 => 0
  | j + 1 => loNat g j + 256 ^ j * (g j).toNat
theorem loNat_lt (g : Nat → BitVec 8) (j : Nat) : loNat g j < 256 ^ j := by
  induction j with
  | zero => simp [loNat]
  | succ j ih =>
    have h1 := (g j).isLt
    have h2 : 256 ^ j * (g j).toNat ≤ 256 ^ j * 255 := Nat.mul_le_mul_left _ (by omega)
    simp only [loNat, Nat.pow_succ]
    omega
theorem loNat_byte (g : Nat → BitVec 8) (n k : Nat) (h : k < n) : loNat g n / 256 ^ k % 256 = (g k).toNat := by
  induction n with
  | zero => omega
  | succ n ih =>
    simp only [loNat]
    by_cases hk : k = n
    · subst hk
      rw [Nat.add_mul_div_left _ _ (Nat.pow_pos (by omega)), Nat.div_eq_of_lt (loNat_lt g k), Nat.zero_add]
      have := (g k).isLt
      omega
    · have hlt : k < n := by omega
      obtain ⟨d, rfl⟩ : ∃ d, n = k + 1 + d := ⟨n - (k + 1), by omega⟩
      rw [show 256 ^ (k + 1 + d) * (g (k + 1 + d)).toNat = 256 ^ k * (256 * (256 ^ d * (g (k + 1 + d)).toNat)) by
        rw [Nat.pow_add, Nat.pow_succ]; simp only [Nat.mul_assoc], Nat.add_mul_div_left _ _ (Nat.pow_pos (by omega)), Nat.add_mul_mod_self_left]
      exact ih hlt
theorem loNat_leN (g : Nat → BitVec 8) : ((loNat g 8 : Nat) : Int) = X (leN g 8) := by
  have hlt := loNat_lt g 8
  have h : leN g 8 = BitVec.ofNat 64 (loNat g 8) := leN_sb _ _ fun k hk => by
    apply BitVec.eq_of_toNat_eq
    unfold sb
    rw [BitVec.truncate_eq_setWidth, BitVec.toNat_setWidth, BitVec.toNat_ushiftRight, BitVec.toNat_ofNat, show loNat g 8 % 2 ^ 64 = loNat g 8 from Nat.mod_eq_of_lt (by omega), Nat.shiftRight_eq_div_pow,
      show 2 ^ (8 * k) = 256 ^ k by rw [Nat.pow_mul]]
    exact (loNat_byte g 8 k hk).symm
  rw [h]
  unfold X
  rw [BitVec.toNat_ofNat, Nat.mod_eq_of_lt (by omega)]
end Go.Proofs.Ytkalbhddjpnnmaa

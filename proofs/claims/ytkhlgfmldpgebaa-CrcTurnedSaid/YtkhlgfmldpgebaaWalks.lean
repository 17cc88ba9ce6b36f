import Derived.Test.YtkhlgfmldpgebaaProg
import Derived.Test.YtkhlgfmldpgebaaPlain
import Derived.WalkKit
import Derived.KernelRfl
import Derived.BigQuiet
import Derived.Deep.QuietTactic
namespace Go.Proofs.Ytkhlgfmldpgebaa
open Go.RowKit Crc

theorem hid {p : Prop} (h : p) : Hid p := h

/-- A register's number. -/
def U (b : BitVec 32) : Int := (b.toNat : Int)
theorem U_lo (b : BitVec 32) : 0 ≤ U b := by unfold U; omega
theorem U_hi (b : BitVec 32) : U b < 4294967296 := by unfold U; have := b.isLt; omega
theorem ofInt_U (b : BitVec 32) : BitVec.ofInt 32 (U b) = b := by unfold U; rw [BitVec.ofInt_natCast]; simp
theorem wrap_nat (n : Nat) (h : n < 4294967296) : IntKind.u32.wrap (n : Int) = (n : Int) := by
  simp [IntKind.wrap, IntKind.bits, IntKind.signed]
  omega
theorem U_xor (a b : BitVec 32) : bits .xor .u32 (U a) (U b) = U (a ^^^ b) := by
  show IntKind.u32.wrap (((BitVec.ofInt 32 (U a) ^^^ BitVec.ofInt 32 (U b)).toNat : Nat) : Int) = _
  rw [ofInt_U, ofInt_U, wrap_nat _ (BitVec.isLt _)]; rfl
theorem U_not (a : BitVec 32) : bits .xor .u32 IntKind.u32.max (U a) = U (~~~ a) := by
  show IntKind.u32.wrap (((BitVec.ofInt 32 IntKind.u32.max ^^^ BitVec.ofInt 32 (U a)).toNat : Nat) : Int) = _
  rw [ofInt_U, wrap_nat _ (BitVec.isLt _), show BitVec.ofInt 32 IntKind.u32.max = BitVec.allOnes 32 by decide, BitVec.allOnes_xor]; rfl
theorem U_feed (a : BitVec 32) (c : UInt8) : bits .xor .u32 (U a) ((c.toNat : Int) % 4294967296) = U (a ^^^ c.toBitVec.zeroExtend 32) := by
  have : (c.toNat : Int) % 4294967296 = U (c.toBitVec.zeroExtend 32) := by
    unfold U
    have := c.toNat_lt
    simp only [BitVec.truncate_eq_setWidth, BitVec.toNat_setWidth]
    rw [show c.toBitVec.toNat = c.toNat from rfl, Nat.mod_eq_of_lt (by omega)]
    omega
  rw [this, U_xor]

theorem U_div2 (b : BitVec 32) : (U b / (2 : Int) : Int) = U (b >>> (1 : Nat)) := by
  unfold U; rw [BitVec.toNat_ushiftRight, Nat.shiftRight_eq_div_pow]; omega

theorem step_val (b : BitVec 32) : bits .xor .u32 (U b / 2) (bits .and .u32 3988292384 (-bits .and .u32 (U b) 1 % 4294967296)) = U (stp b) := by
  have h1 := U_div2 b
  have h2 : bits .and .u32 (U b) 1 = U (b &&& 1#32) := by
    show IntKind.u32.wrap (((BitVec.ofInt 32 (U b) &&& BitVec.ofInt 32 1).toNat : Nat) : Int) = _
    rw [ofInt_U, wrap_nat _ (BitVec.isLt _)]; rfl
  have h3 : -U (b &&& 1#32) % 4294967296 = U (-(b &&& 1#32)) := by
    unfold U; rw [BitVec.toNat_neg]; have := (b &&& 1#32).isLt; omega
  have h4 : bits .and .u32 3988292384 (U (-(b &&& 1#32))) = U (poly &&& -(b &&& 1#32)) := by
    show IntKind.u32.wrap (((BitVec.ofInt 32 3988292384 &&& BitVec.ofInt 32 (U (-(b &&& 1#32)))).toNat : Nat) : Int) = _
    rw [ofInt_U, wrap_nat _ (BitVec.isLt _)]; rfl
  rw [h1, h2, h3, h4, U_xor]
  unfold stp
  congr 2
  have h5 : b &&& 1#32 = if b.getLsbD 0 then 1#32 else 0#32 := by
    apply BitVec.eq_of_getLsbD_eq
    intro i hi
    cases h : b.getLsbD 0 <;> rcases Nat.eq_zero_or_pos i with rfl | hp <;> simp_all
    all_goals omega
  rw [h5]
  cases b.getLsbD 0 <;> decide

set_option maxHeartbeats 400000 in
theorem step_any (b : BitVec 32) (w : World) : Calls Try.prog 16 #[.int .u32 (U b)] w fun e w' => e = .returned (.int .u32 (U (stp b))) ∧ w = w' := by
  have h0 := U_lo b
  have h1 := U_hi b
  go_enter Try.func16, Try.ntmps16
  go_wp2_with fail
  go_ret
  exact ⟨congrArg (fun x => Ending.returned (.int .u32 x)) (step_val b), rfl⟩

theorem U_mod2 (b : BitVec 32) : U b % 2 = if b.getLsbD 0 then 1 else 0 := by
  unfold U
  have h := @Nat.mod_two_eq_one_iff_testBit_zero b.toNat
  rw [BitVec.getLsbD]
  cases ht : b.toNat.testBit 0
  · rw [ht] at h; simp at h ⊢; omega
  · rw [ht] at h; simp at h ⊢; omega
theorem turned_odd (b : BitVec 32) (h : b.getLsbD 0 = true) : bits .xor .u32 (U b / 2) 3988292384 = U (stp b) := by
  have h1 := U_div2 b
  rw [h1, show (3988292384 : Int) = U poly from rfl, U_xor]
  unfold stp; rw [if_pos h]
theorem turned_even (b : BitVec 32) (h : b.getLsbD 0 = false) : U b / 2 = U (stp b) := by
  have h1 := U_div2 b
  rw [h1]
  unfold stp; rw [h]; simp

set_option maxHeartbeats 400000 in
theorem turned_any (b : BitVec 32) (w : World) : Calls Try.prog 17 #[.int .u32 (U b)] w fun e w' => e = .returned (.int .u32 (U (stp b))) ∧ w = w' := by
  have h0 := U_lo b
  have h1 := U_hi b
  have hm := U_mod2 b
  cases hb : b.getLsbD 0
  · have hv := turned_even b hb
    rw [hb] at hm
    have hm' : (U b % 2 == 1) = false := by rw [hm]; rfl
    clear hm hb
    have HV := hid hv; clear hv
    go_enter Try.func17, Try.ntmps17
    go_wp2_with fail
    go_ret
    exact ⟨congrArg (fun x => Ending.returned (.int .u32 x)) HV.out, rfl⟩
  · have hv := turned_odd b hb
    rw [hb] at hm
    have hm' : (U b % 2 == 1) = true := by rw [hm]; rfl
    clear hm hb
    have HV := hid hv; clear hv
    go_enter Try.func17, Try.ntmps17
    go_wp2_with fail
    go_ret
    exact ⟨congrArg (fun x => Ending.returned (.int .u32 x)) HV.out, rfl⟩


/-- A text's bytes. -/
def bs (s : ByteArray) : List (BitVec 8) := s.data.toList.map (·.toBitVec)
theorem bs_length (s : ByteArray) : (bs s).length = s.size := by simp [bs]
theorem bs_take_succ (s : ByteArray) (k : Nat) (h : k < s.size) : (bs s).take (k + 1) = (bs s).take k ++ [s[k].toBitVec] := by
  rw [List.take_succ_eq_append_getElem (by rw [bs_length]; exact h)]
  simp only [bs, List.getElem_map, Array.getElem_toList]
  rfl
theorem reg_snoc (r : BitVec 32) (l : List (BitVec 8)) (c : BitVec 8) : reg r (l ++ [c]) = feed (reg r l) c := by simp [reg, List.foldl_append]

set_option maxHeartbeats 400000 in
theorem more_any (x : BitVec 32) (s : ByteArray) (hs : s.size ≤ maxLen) (w : World) :
    Calls Try.prog 12 #[.int .u32 (U x), .string s] w fun e w' => e = .returned (.int .u32 (U (more x (bs s)))) ∧ w = w' := by
  unfold maxLen at hs
  go_enter Try.func12, Try.ntmps12
  go_wp2_with fail
  go_loop [5, 6] (fun r i => ∃ k : Nat, k ≤ s.size ∧ i = .int .i64 k ∧ r = .int .u32 (U (reg (~~~ x) ((bs s).take k)))) (fun _ i => s.size - (intOf i).toNat)
  case atStart => exact ⟨0, Nat.zero_le _, rfl, congrArg (Value.int .u32) (U_not x)⟩
  case round =>
    obtain ⟨k, hk, rfl, rfl⟩ := hrel
    by_cases hlt : k < s.size
    · have hr : reg (~~~ x) ((bs s).take (k + 1)) = stpN 8 (reg (~~~ x) ((bs s).take k) ^^^ s[k].toBitVec.zeroExtend 32) := by
        rw [bs_take_succ s k hlt, reg_snoc]; rfl
      have HR := hid hr; clear hr
      have hf := congrArg (Value.int .u32) (U_feed (reg (~~~ x) ((bs s).take k)) s[k])
      generalize hr0 : reg (~~~ x) ((bs s).take k) = r0 at *
      have Hr0 := hid hr0; clear hr0
      generalize hr1 : r0 ^^^ s[k].toBitVec.zeroExtend 32 = r1 at *
      have Hr1 := hid hr1; clear hr1
      have Hf := hid hf; clear hf
      go_wp2_with fail
      go_loop [5, 21] (fun r i => ∃ j : Nat, j ≤ 8 ∧ i = .int .i64 j ∧ r = .int .u32 (U (stpN j r1))) (fun _ i => 8 - (intOf i).toNat)
      case atStart => exact ⟨0, Nat.zero_le _, rfl, Hf.out⟩
      case round =>
        obtain ⟨j, hj, rfl, rfl⟩ := hrel
        by_cases hl : j < 8
        · go_wp2_with (go_at_call 16; refine (step_any _ _).mono ?_; rintro e w' ⟨rfl, rfl⟩)
          go_round
          case rel => exact ⟨j + 1, by omega, by go_num, by rw [stpN_succ]⟩
          case measure => simp [intOf]; omega
        · obtain rfl : j = 8 := by omega
          go_wp2_with fail
          go_round
          case rel => exact ⟨k + 1, by omega, by go_num, by rw [HR.out]⟩
          case measure => simp [intOf]; omega
    · obtain rfl : k = s.size := by omega
      go_wp2_with fail
      go_ret
      refine ⟨?_, rfl⟩
      exact congrArg (fun v => Ending.returned (Value.int .u32 v)) ((U_not _).trans (by rw [List.take_of_length_le (by rw [bs_length]; omega)]; rfl))

theorem U_sub (a : BitVec 32) : 4294967295 - U a = U (~~~ a) := by
  unfold U
  rw [BitVec.toNat_not]
  have := a.isLt
  omega

set_option maxHeartbeats 400000 in
theorem refmore_any (x : BitVec 32) (s : ByteArray) (hs : s.size ≤ maxLen) (w : World) :
    Calls Try.prog 13 #[.int .u32 (U x), .string s] w fun e w' => e = .returned (.int .u32 (U (more x (bs s)))) ∧ w = w' := by
  unfold maxLen at hs
  have hlo := U_lo x
  have hhi : U x ≤ 4294967295 := by have := U_hi x; omega
  have hnot := congrArg (Value.int .u32) (U_sub x)
  have Hnot := hid hnot; clear hnot
  go_enter Try.func13, Try.ntmps13
  go_wp2_with fail
  clear hlo hhi
  go_loop [5, 6] (fun r i => ∃ k : Nat, k ≤ s.size ∧ i = .int .i64 k ∧ r = .int .u32 (U (reg (~~~ x) ((bs s).take k)))) (fun _ i => s.size - (intOf i).toNat)
  case atStart => exact ⟨0, Nat.zero_le _, rfl, Hnot.out⟩
  case round =>
    obtain ⟨k, hk, rfl, rfl⟩ := hrel
    by_cases hlt : k < s.size
    · have hr : reg (~~~ x) ((bs s).take (k + 1)) = stpN 8 (reg (~~~ x) ((bs s).take k) ^^^ s[k].toBitVec.zeroExtend 32) := by
        rw [bs_take_succ s k hlt, reg_snoc]; rfl
      have HR := hid hr; clear hr
      have hf := congrArg (Value.int .u32) (U_feed (reg (~~~ x) ((bs s).take k)) s[k])
      generalize hr0 : reg (~~~ x) ((bs s).take k) = r0 at *
      have Hr0 := hid hr0; clear hr0
      generalize hr1 : r0 ^^^ s[k].toBitVec.zeroExtend 32 = r1 at *
      have Hr1 := hid hr1; clear hr1
      have Hf := hid hf; clear hf
      go_wp2_with fail
      go_loop [5, 7] (fun r i => ∃ j : Nat, j ≤ 8 ∧ i = .int .i64 j ∧ r = .int .u32 (U (stpN j r1))) (fun _ i => 8 - (intOf i).toNat)
      case atStart => exact ⟨0, Nat.zero_le _, rfl, Hf.out⟩
      case round =>
        obtain ⟨j, hj, rfl, rfl⟩ := hrel
        by_cases hl : j < 8
        · go_wp2_with (go_at_call 17; refine (turned_any _ _).mono ?_; rintro e w' ⟨rfl, rfl⟩)
          go_round
          case rel => exact ⟨j + 1, by omega, by go_num, by rw [stpN_succ]⟩
          case measure => simp [intOf]; omega
        · obtain rfl : j = 8 := by omega
          go_wp2_with fail
          go_round
          case rel => exact ⟨k + 1, by omega, by go_num, by rw [HR.out]⟩
          case measure => simp [intOf]; omega
    · obtain rfl : k = s.size := by omega
      have hlo := U_lo (reg (~~~ x) ((bs s).take s.size))
      have hhi : U (reg (~~~ x) ((bs s).take s.size)) ≤ 4294967295 := by have := U_hi (reg (~~~ x) ((bs s).take s.size)); omega
      have hv := congrArg (fun v => Ending.returned (Value.int .u32 v)) ((U_sub (reg (~~~ x) ((bs s).take s.size))).trans (b := U (~~~ (reg (~~~ x) ((bs s).take s.size)))) (c := U (more x (bs s))) (by rw [List.take_of_length_le (by rw [bs_length]; omega)]; rfl))
      have HV := hid hv; clear hv
      generalize (reg (~~~ x) ((bs s).take s.size)) = q at *
      go_wp2_with fail
      go_ret
      exact ⟨HV.out, rfl⟩

set_option maxHeartbeats 400000 in
theorem sum_any (s : ByteArray) (hs : s.size ≤ maxLen) (w : World) :
    Calls Try.prog 10 #[.string s] w fun e w' => e = .returned (.int .u32 (U (sum (bs s)))) ∧ w = w' := by
  go_enter Try.func10, Try.ntmps10
  go_wp2_with (go_at_call 12; refine (more_any 0#32 s hs _).mono ?_; rintro e w' ⟨rfl, rfl⟩)
  go_ret
  exact ⟨rfl, rfl⟩

set_option maxHeartbeats 400000 in
theorem refsum_any (s : ByteArray) (hs : s.size ≤ maxLen) (w : World) :
    Calls Try.prog 11 #[.string s] w fun e w' => e = .returned (.int .u32 (U (sum (bs s)))) ∧ w = w' := by
  go_enter Try.func11, Try.ntmps11
  go_wp2_with (go_at_call 13; refine (refmore_any 0#32 s hs _).mono ?_; rintro e w' ⟨rfl, rfl⟩)
  go_ret
  exact ⟨rfl, rfl⟩

/-- The mask with j bits to come. -/
def mask : Nat → BitVec 32
  | 0 => 0#32
  | j + 1 => 1#32 <<< j
theorem mask_div (j : Nat) (hj : j < 32) : U (mask (j + 1)) / 2 = U (mask j) := by
  rw [show U (mask (j + 1)) / 2 = U (mask (j + 1) >>> (1 : Nat)) from U_div2 _]
  congr 1
  have : ∀ j, j < 32 → mask (j + 1) >>> (1 : Nat) = mask j := by decide +kernel
  exact this j hj
theorem mask_pos (j : Nat) (hj : j < 32) : 0 < U (mask (j + 1)) := by
  have : ∀ j, j < 32 → 0 < U (mask (j + 1)) := by decide +kernel
  exact this j hj
theorem mask_and (a : BitVec 32) (j : Nat) (hj : j < 32) : (bits .and .u32 (U a) (U (mask (j + 1))) != 0) = a.getLsbD j := by
  have h : bits .and .u32 (U a) (U (mask (j + 1))) = U (a &&& mask (j + 1)) := by
    show IntKind.u32.wrap (((BitVec.ofInt 32 (U a) &&& BitVec.ofInt 32 (U (mask (j + 1)))).toNat : Nat) : Int) = _
    rw [ofInt_U, ofInt_U, wrap_nat _ (BitVec.isLt _)]; rfl
  rw [h]
  have hm : a &&& mask (j + 1) = if a.getLsbD j then mask (j + 1) else 0#32 := by
    apply BitVec.eq_of_getLsbD_eq
    intro i hi
    by_cases hij : i = j
    · subst hij; cases h : a.getLsbD i <;> simp [mask, h]
    · cases h : a.getLsbD j <;> simp [mask, BitVec.getLsbD_one] <;> omega
  rw [hm]
  cases h : a.getLsbD j
  · rfl
  · have := mask_pos j hj
    simp; omega

set_option maxHeartbeats 800000 in
theorem times_any (a b : BitVec 32) (w : World) :
    Calls Try.prog 18 #[.int .u32 (U a), .int .u32 (U b)] w fun e w' => e = .returned (.int .u32 (U (times a b))) ∧ w = w' := by
  go_enter Try.func18, Try.ntmps18
  go_wp2_with fail
  go_loop [1, 5, 6] (fun vb vp vm => ∃ (j : Nat) (p c : BitVec 32), j ≤ 32 ∧ vb = .int .u32 (U c) ∧ vp = .int .u32 (U p) ∧ vm = .int .u32 (U (mask j)) ∧ timesFrom j a p c = times a b)
    (fun _ _ m => (intOf m).toNat)
  case atStart => exact ⟨32, 0#32, b, Nat.le_refl _, rfl, rfl, rfl, rfl⟩
  case round =>
    obtain ⟨j, p, c, hj, rfl, rfl, rfl, hT⟩ := hrel
    rcases j with _ | j
    · have HT := hid hT; clear hT
      go_wp2_with fail
      go_ret
      exact ⟨congrArg (fun v => Ending.returned (Value.int .u32 (U v))) HT.out, rfl⟩
    · have hp := mask_pos j (by omega)
      have hd := congrArg (Value.int .u32) (mask_div j (by omega))
      have hms : (U (mask (j + 1)) / 2).toNat < (U (mask (j + 1))).toNat := by omega
      have ha := mask_and a j (by omega)
      have HD := hid hd; clear hd
      have HT := hid hT; clear hT
      have HMS := hid hms; clear hms
      by_cases hb : a.getLsbD j = true
      · rw [hb] at ha
        have hx := congrArg (Value.int .u32) (U_xor p c)
        have HX := hid hx; clear hx
        have HB := hid hb; clear hb
        generalize hmm : U (mask (j + 1)) = m at *
        have Hmm := hid hmm; clear hmm
        go_wp2_with (go_at_call 16; refine (step_any _ _).mono ?_; rintro e w' ⟨rfl, rfl⟩)
        go_round
        case rel => exact ⟨j, p ^^^ c, stp c, by omega, rfl, HX.out, HD.out, by rw [← HT.out, timesFrom, if_pos HB.out]⟩
        case measure => exact HMS.out
      · simp only [Bool.not_eq_true] at hb
        rw [hb] at ha
        have HB := hid hb; clear hb
        generalize hmm : U (mask (j + 1)) = m at *
        have Hmm := hid hmm; clear hmm
        go_wp2_with (go_at_call 16; refine (step_any _ _).mono ?_; rintro e w' ⟨rfl, rfl⟩)
        go_round
        case rel => exact ⟨j, p, stp c, by omega, rfl, rfl, HD.out, by rw [← HT.out, timesFrom, HB.out]; rfl⟩
        case measure => exact HMS.out

theorem and_one (N : Nat) (h : N < 9223372036854775808) : (bits .and .i64 (N : Int) 1 == 1) = decide (N % 2 = 1) := by
  have h1 : bits .and .i64 (N : Int) 1 = ((N % 2 : Nat) : Int) := by
    show IntKind.i64.wrap (((BitVec.ofInt 64 (N : Int) &&& BitVec.ofInt 64 1).toNat : Nat) : Int) = _
    rw [BitVec.ofInt_natCast, show BitVec.ofInt 64 1 = 1#64 by decide, BitVec.toNat_and, BitVec.toNat_ofNat, show (1#64).toNat = 1 from rfl, Nat.and_one_is_mod, Nat.mod_eq_of_lt (by omega : N < 2 ^ 64)]
    have := Nat.mod_lt N (by omega : 2 > 0)
    simp [IntKind.wrap, IntKind.bits, IntKind.signed]
    omega
  rw [h1]
  rcases Nat.mod_two_eq_zero_or_one N with h | h <;> simp [h]

/-- What is left of Join behind its head. -/
theorem join_step_odd (e N : Nat) (a : BitVec 32) (h : N % 2 = 1) : stpN ((e + e) * (N / 2)) (stpN e a) = stpN (e * N) a := by
  rw [← stpN_add]
  congr 1
  have : e * N = e * (N % 2 + 2 * (N / 2)) := by rw [Nat.mod_add_div]
  rw [this, h, Nat.mul_add, ← Nat.mul_assoc, Nat.mul_one, Nat.add_mul, Nat.mul_two, Nat.add_mul]
theorem join_step_even (e N : Nat) (a : BitVec 32) (h : N % 2 = 0) : stpN ((e + e) * (N / 2)) a = stpN (e * N) a := by
  congr 1
  have : e * N = e * (N % 2 + 2 * (N / 2)) := by rw [Nat.mod_add_div]
  rw [this, h, Nat.zero_add, ← Nat.mul_assoc, Nat.mul_two]

set_option maxHeartbeats 1000000 in
theorem join_any (a b : BitVec 32) (n : Int) (hn : n < 9223372036854775808) (w : World) :
    Calls Try.prog 14 #[.int .u32 (U a), .int .u32 (U b), .int .i64 n] w fun e w' => e = .returned (.int .u32 (U (join a b n.toNat))) ∧ w = w' := by
  have hx0 : (8388608 : Int) = U (stpN 8 one) := by rw [pow8]; rfl
  by_cases hle : n ≤ 0
  all_goals
    go_enter Try.func14, Try.ntmps14
    go_wp2_with fail
    go_loop [0, 2, 7] (fun va vn vx => ∃ (N e : Nat) (c : BitVec 32), N < 9223372036854775808 ∧ va = .int .u32 (U c) ∧ vn = .int .i64 N ∧ vx = .int .u32 (U (stpN e one)) ∧ stpN (e * N) c = stpN (8 * n.toNat) a)
      (fun _ vn _ => (intOf vn).toNat)
    case atStart =>
      first
        | exact ⟨0, 8, a, by omega, rfl, rfl, congrArg (Value.int .u32) hx0, by rw [show n.toNat = 0 by omega]⟩
        | exact ⟨n.toNat, 8, a, by omega, rfl, by rw [Int.toNat_of_nonneg (by omega)], congrArg (Value.int .u32) hx0, rfl⟩
    case round =>
      obtain ⟨N, e, c, hN, rfl, rfl, rfl, hT⟩ := hrel
      clear hx0
      by_cases h0 : 0 < N
      · have hlt : N / 2 < N := by omega
        have ho := and_one N hN
        have ht : ∀ c, times (stpN e one) c = stpN e c := times_pow e
        have hsq : times (stpN e one) (stpN e one) = stpN (e + e) one := by rw [times_pow, ← stpN_add]
        have Hsq := hid hsq; clear hsq
        have Ht := hid ht; clear ht
        have HT := hid hT; clear hT
        by_cases h2 : N % 2 = 1
        · rw [decide_eq_true h2] at ho
          have hs := join_step_odd e N c h2
          have Hs := hid hs; clear hs
          have H2 := hid h2; clear h2
          go_wp2_with (go_at_call 18; refine (times_any _ _ _).mono ?_; rintro e w' ⟨rfl, rfl⟩)
          go_round
          case rel => exact ⟨N / 2, e + e, stpN e c, by omega, by rw [Ht.out], rfl, by rw [Hsq.out], by rw [Hs.out, HT.out]⟩
          case measure => simp [intOf]; omega
        · rw [decide_eq_false h2] at ho
          have hs := join_step_even e N c (by omega)
          have Hs := hid hs; clear hs
          have H2 := hid h2; clear h2
          go_wp2_with (go_at_call 18; refine (times_any _ _ _).mono ?_; rintro e w' ⟨rfl, rfl⟩)
          go_round
          case rel => exact ⟨N / 2, e + e, c, by omega, rfl, rfl, by rw [Hsq.out], by rw [Hs.out, HT.out]⟩
          case measure => simp [intOf]; omega
      · obtain rfl : N = 0 := by omega
        have HT := hid hT; clear hT
        have hx := U_xor c b
        have Hx := hid hx; clear hx
        go_wp2_with fail
        go_ret
        exact ⟨congrArg (fun v => Ending.returned (Value.int .u32 v)) (Hx.out.trans (by unfold join; rw [← HT.out]; rfl)), rfl⟩

set_option maxHeartbeats 1000000 in
theorem refjoin_any (a b : BitVec 32) (n : Int) (hn : n ≤ 4096) (w : World) :
    Calls Try.prog 15 #[.int .u32 (U a), .int .u32 (U b), .int .i64 n] w fun e w' => e = .returned (.int .u32 (U (join a b n.toNat))) ∧ w = w' := by
  go_enter Try.func15, Try.ntmps15
  go_wp2_with fail
  go_loop [0, 7] (fun va vi => ∃ k : Nat, k ≤ n.toNat ∧ va = .int .u32 (U (stpN (8 * k) a)) ∧ vi = .int .i64 k) (fun _ vi => n.toNat - (intOf vi).toNat)
  case atStart => exact ⟨0, Nat.zero_le _, rfl, rfl⟩
  case round =>
    obtain ⟨k, hk, rfl, rfl⟩ := hrel
    by_cases hlt : (k : Int) < n
    · have hkb : k < 4096 := by omega
      go_wp2_with fail
      go_loop [0, 8] (fun va vj => ∃ j : Nat, j ≤ 8 ∧ va = .int .u32 (U (stpN (8 * k + j) a)) ∧ vj = .int .i64 j) (fun _ vj => 8 - (intOf vj).toNat)
      case atStart => exact ⟨0, Nat.zero_le _, rfl, rfl⟩
      case round =>
        obtain ⟨j, hj, rfl, rfl⟩ := hrel
        by_cases hl : j < 8
        · go_wp2_with (go_at_call 17; refine (turned_any _ _).mono ?_; rintro e w' ⟨rfl, rfl⟩)
          go_round
          case rel => exact ⟨j + 1, by omega, by rw [← Nat.add_assoc, stpN_succ], by go_num⟩
          case measure => simp [intOf]; omega
        · obtain rfl : j = 8 := by omega
          go_wp2_with fail
          go_round
          case rel => exact ⟨k + 1, by omega, by rw [Nat.mul_add], by go_num⟩
          case measure => simp [intOf]; omega
    · have hv : join a b n.toNat = stpN (8 * k) a ^^^ b := by unfold join; rw [show n.toNat = k by omega]
      have hx := (U_xor (stpN (8 * k) a) b).trans (congrArg U hv.symm)
      clear hv
      have Hx := hid hx; clear hx
      go_wp2_with fail
      go_ret
      exact ⟨congrArg (fun v => Ending.returned (Value.int .u32 v)) Hx.out, rfl⟩

def digits : ByteArray := ⟨#[49, 50, 51, 52, 53, 54, 55, 56, 57]⟩
theorem sum_digits (w : World) : Calls Try.prog 10 #[.string ⟨#[49, 50, 51, 52, 53, 54, 55, 56, 57]⟩] w fun e w' => e = .returned (.int .u32 3421780262) ∧ w = w' := by
  have h : U (sum (bs digits)) = 3421780262 := by decide +kernel
  have := sum_any digits (by decide) w
  rw [h] at this
  exact this
theorem join_12 (w : World) : Calls Try.prog 14 #[.int .u32 1, .int .u32 2, .int .i64 0] w fun e w' => e = .returned (.int .u32 3) ∧ w = w' := by
  have h : U (join 1#32 2#32 (0 : Int).toNat) = 3 := by decide +kernel
  have := join_any 1#32 2#32 0 (by omega) w
  rw [h] at this
  exact this

set_option maxHeartbeats 400000 in
theorem awake_any (w : World) : Calls Try.prog 9 #[] w fun e w' => e = .returned (.bool true) ∧ w = w' := by
  go_enter Try.func9, Try.ntmps9
  go_wp2_with (first | (go_at_call 10; refine (sum_digits _).mono ?_; rintro e w' ⟨rfl, rfl⟩) | (go_at_call 14; refine (join_12 _).mono ?_; rintro e w' ⟨rfl, rfl⟩))
  go_ret
  exact ⟨rfl, rfl⟩
end Go.Proofs.Ytkhlgfmldpgebaa

/- The plain theory of the register: steps, sums, joins and their laws, over BitVec; no program in sight. -/
namespace Go.Proofs.Ytkhlgfmldpgebaa.Crc

def poly : BitVec 32 := 0xedb88320#32
/-- One step of the register. -/
def stp (r : BitVec 32) : BitVec 32 := (r >>> 1) ^^^ (if r.getLsbD 0 then poly else 0#32)
def stpN : Nat → BitVec 32 → BitVec 32
  | 0, r => r
  | n + 1, r => stpN n (stp r)
/-- A byte is fed. -/
def feed (r : BitVec 32) (c : BitVec 8) : BitVec 32 := stpN 8 (r ^^^ c.zeroExtend 32)
def reg (r : BitVec 32) (l : List (BitVec 8)) : BitVec 32 := l.foldl feed r
def more (sum : BitVec 32) (l : List (BitVec 8)) : BitVec 32 := ~~~ (reg (~~~ sum) l)
def sum (l : List (BitVec 8)) : BitVec 32 := more 0#32 l
def join (a b : BitVec 32) (n : Nat) : BitVec 32 := stpN (8 * n) a ^^^ b

theorem ite_xor (p q : Bool) (x : BitVec 32) :
    (if (p ^^ q) = true then x else 0#32) = (if p = true then x else 0#32) ^^^ (if q = true then x else 0#32) := by
  cases p <;> cases q <;> simp

theorem stp_xor (a b : BitVec 32) : stp (a ^^^ b) = stp a ^^^ stp b := by
  unfold stp
  rw [BitVec.getLsbD_xor, ite_xor, BitVec.ushiftRight_xor_distrib]
  ac_rfl

theorem stpN_xor (n : Nat) : ∀ a b, stpN n (a ^^^ b) = stpN n a ^^^ stpN n b := by
  induction n with
  | zero => intro a b; rfl
  | succ n ih => intro a b; simp only [stpN, stp_xor, ih]

theorem stpN_add (m n : Nat) : ∀ r, stpN (m + n) r = stpN n (stpN m r) := by
  induction m with
  | zero => intro r; simp [stpN]
  | succ m ih => intro r; rw [show m + 1 + n = (m + n) + 1 by omega]; simp only [stpN, ih]

theorem stpN_succ (n : Nat) (r : BitVec 32) : stpN (n + 1) r = stp (stpN n r) := by
  rw [stpN_add n 1]; rfl

theorem stp_zero : stp 0#32 = 0#32 := by decide
theorem stpN_zero (n : Nat) : stpN n 0#32 = 0#32 := by
  induction n with
  | zero => rfl
  | succ n ih => rw [stpN_succ, ih, stp_zero]

theorem stp_inj0 {r : BitVec 32} (h : stp r = 0#32) : r = 0#32 := by
  unfold stp at h
  by_cases hb : r.getLsbD 0 = true
  · exfalso
    rw [if_pos hb] at h
    have h31 := congrArg (fun x => BitVec.getLsbD x 31) h
    simp at h31
    have : poly.getLsbD 31 = true := by decide
    rw [BitVec.getLsbD] at this
    simp_all [poly]
  · rw [if_neg hb] at h
    simp only [BitVec.xor_zero] at h
    apply BitVec.eq_of_getLsbD_eq
    intro i hi
    rw [BitVec.getLsbD_zero]
    rcases Nat.eq_zero_or_pos i with rfl | hp
    · simpa using hb
    · have := congrArg (fun x => BitVec.getLsbD x (i - 1)) h
      simp only [BitVec.getLsbD_ushiftRight, BitVec.getLsbD_zero] at this
      rwa [show 1 + (i - 1) = i by omega] at this

theorem stpN_inj0 (n : Nat) : ∀ {r : BitVec 32}, stpN n r = 0#32 → r = 0#32 := by
  induction n with
  | zero => intro r h; exact h
  | succ n ih => intro r h; exact stp_inj0 (ih h)

/-! Linear functions are known by their values at the 32 single bits. -/
theorem split_top (n : Nat) (b : BitVec 32) (hb : b.toNat < 2 ^ (n + 1)) :
    ∃ c : BitVec 32, c.toNat < 2 ^ n ∧ (b = c ∨ b = c ^^^ (1#32 <<< n)) := by
  by_cases h : b.getLsbD n = true
  · refine ⟨b ^^^ (1#32 <<< n), ?_, Or.inr ?_⟩
    · refine Nat.lt_pow_two_of_testBit _ fun i hi => ?_
      rw [BitVec.testBit_toNat, BitVec.getLsbD_xor]
      rcases Nat.lt_or_ge n i with hlt | hge
      · have h1 : b.getLsbD i = false := by
          rw [BitVec.getLsbD]; exact Nat.testBit_lt_two_pow (Nat.lt_of_lt_of_le hb (Nat.pow_le_pow_right (by omega) hlt))
        rw [h1]
        simp [BitVec.getLsbD_shiftLeft, BitVec.getLsbD_one]
        omega
      · have : i = n := by omega
        subst this
        rw [h]
        have : i < 32 := BitVec.lt_of_getLsbD h
        simp [this]
    · rw [BitVec.xor_assoc, BitVec.xor_self, BitVec.xor_zero]
  · refine ⟨b, ?_, Or.inl rfl⟩
    refine Nat.lt_pow_two_of_testBit _ fun i hi => ?_
    rcases Nat.lt_or_ge n i with hlt | hge
    · exact Nat.testBit_lt_two_pow (Nat.lt_of_lt_of_le hb (Nat.pow_le_pow_right (by omega) hlt))
    · have : i = n := by omega
      subst this
      rw [BitVec.testBit_toNat]
      simpa using h

theorem lin_ext (f g : BitVec 32 → BitVec 32) (hf : ∀ a b, f (a ^^^ b) = f a ^^^ f b) (hg : ∀ a b, g (a ^^^ b) = g a ^^^ g b)
    (h : ∀ i, i < 32 → f (1#32 <<< i) = g (1#32 <<< i)) (b : BitVec 32) : f b = g b := by
  have key : ∀ n, n ≤ 32 → ∀ b : BitVec 32, b.toNat < 2 ^ n → f b = g b := by
    intro n
    induction n with
    | zero =>
      intro _ b hb
      have : b = 0#32 := BitVec.eq_of_toNat_eq (by simp; omega)
      subst this
      have e1 := hf 0#32 0#32
      have e2 := hg 0#32 0#32
      simp only [BitVec.xor_self] at e1 e2
      rw [e1, e2]
    | succ n ih =>
      intro hn b hb
      obtain ⟨c, hc, rfl | rfl⟩ := split_top n b hb
      · exact ih (by omega) _ hc
      · rw [hf, hg, ih (by omega) c hc, h n (by omega)]
  exact key 32 (Nat.le_refl _) b b.isLt

/-! The product of remainders: 'times'. -/
/-- From mask bit j down: p gathers b's steps. -/
def timesFrom : Nat → BitVec 32 → BitVec 32 → BitVec 32 → BitVec 32
  | 0, _, p, _ => p
  | j + 1, a, p, b => timesFrom j a (if a.getLsbD j then p ^^^ b else p) (stp b)
def times (a b : BitVec 32) : BitVec 32 := timesFrom 32 a 0#32 b

theorem timesFrom_p (j : Nat) : ∀ a p b, timesFrom j a p b = p ^^^ timesFrom j a 0#32 b := by
  induction j with
  | zero => intro a p b; simp [timesFrom]
  | succ j ih =>
    intro a p b
    simp only [timesFrom]
    rw [ih a (if a.getLsbD j then p ^^^ b else p), ih a (if a.getLsbD j then 0#32 ^^^ b else 0#32)]
    by_cases h : a.getLsbD j = true
    · simp only [h, if_true, BitVec.zero_xor, BitVec.xor_assoc]
    · simp [h]

theorem timesFrom_b (j : Nat) : ∀ a b c, timesFrom j a 0#32 (b ^^^ c) = timesFrom j a 0#32 b ^^^ timesFrom j a 0#32 c := by
  induction j with
  | zero => intro a b c; simp [timesFrom]
  | succ j ih =>
    intro a b c
    simp only [timesFrom]
    rw [timesFrom_p j a (if a.getLsbD j then 0#32 ^^^ (b ^^^ c) else 0#32), timesFrom_p j a (if a.getLsbD j then 0#32 ^^^ b else 0#32),
      timesFrom_p j a (if a.getLsbD j then 0#32 ^^^ c else 0#32), stp_xor, ih]
    by_cases h : a.getLsbD j = true
    · simp only [h, if_true, BitVec.zero_xor]; ac_rfl
    · simp [h]

theorem timesFrom_a (j : Nat) : ∀ a a' b, timesFrom j (a ^^^ a') 0#32 b = timesFrom j a 0#32 b ^^^ timesFrom j a' 0#32 b := by
  induction j with
  | zero => intro a a' b; simp [timesFrom]
  | succ j ih =>
    intro a a' b
    simp only [timesFrom]
    rw [timesFrom_p j (a ^^^ a') (if (a ^^^ a').getLsbD j then 0#32 ^^^ b else 0#32), timesFrom_p j a (if a.getLsbD j then 0#32 ^^^ b else 0#32),
      timesFrom_p j a' (if a'.getLsbD j then 0#32 ^^^ b else 0#32), ih, BitVec.getLsbD_xor]
    cases h : a.getLsbD j <;> cases h' : a'.getLsbD j <;> simp
    · rw [← BitVec.xor_assoc, ← BitVec.xor_assoc, BitVec.xor_comm b]
    · rw [BitVec.xor_assoc]
    · rw [show b ^^^ timesFrom j a 0#32 (stp b) ^^^ (b ^^^ timesFrom j a' 0#32 (stp b)) = (b ^^^ b) ^^^ (timesFrom j a 0#32 (stp b) ^^^ timesFrom j a' 0#32 (stp b)) by ac_rfl]
      simp

theorem times_b (a b c : BitVec 32) : times a (b ^^^ c) = times a b ^^^ times a c := timesFrom_b _ _ _ _
theorem times_a (a a' b : BitVec 32) : times (a ^^^ a') b = times a b ^^^ times a' b := timesFrom_a _ _ _ _

def one : BitVec 32 := 0x80000000#32

/-- Of the power k of the step, times makes k steps: at the 32 single bits by reckoning. -/
theorem times_one (b : BitVec 32) : times one b = b :=
  lin_ext (times one) id (times_b one) (fun _ _ => rfl) (by decide +kernel) b

theorem times_stp (a b : BitVec 32) : times (stp a) b = stp (times a b) :=
  lin_ext (fun a => times (stp a) b) (fun a => stp (times a b)) (fun x y => by simp only [stp_xor, times_a]) (fun x y => by simp only [stp_xor, times_a])
    (fun i hi => lin_ext (fun b => times (stp (1#32 <<< i)) b) (fun b => stp (times (1#32 <<< i) b)) (fun x y => times_b _ x y) (fun x y => by simp only [times_b, stp_xor])
      (fun j hj => by
        have : ∀ i, i < 32 → ∀ j, j < 32 → times (stp (1#32 <<< i)) (1#32 <<< j) = stp (times (1#32 <<< i) (1#32 <<< j)) := by decide +kernel
        exact this i hi j hj) b) a

theorem times_pow (k : Nat) (b : BitVec 32) : times (stpN k one) b = stpN k b := by
  induction k with
  | zero => exact times_one b
  | succ k ih => rw [stpN_succ, stpN_succ, times_stp, ih]

theorem pow8 : stpN 8 one = 0x800000#32 := by decide +kernel

/-- The loop of Join: x is the power e; behind all rounds 'a' has made e n steps more. -/
def joinLoop : Nat → BitVec 32 → BitVec 32 → Nat → BitVec 32
  | 0, a, _, _ => a
  | k + 1, a, x, n => if n = 0 then a else joinLoop k (if n % 2 = 1 then times x a else a) (times x x) (n / 2)

theorem joinLoop_eq (k : Nat) : ∀ (a : BitVec 32) (e n : Nat), n ≤ k → joinLoop k a (stpN e one) n = stpN (e * n) a := by
  induction k with
  | zero => intro a e n h; obtain rfl : n = 0 := by omega
            rfl
  | succ k ih =>
    intro a e n h
    unfold joinLoop
    by_cases h0 : n = 0
    · simp [h0, stpN]
    · rw [if_neg h0]
      have hx : times (stpN e one) (stpN e one) = stpN (e + e) one := by rw [times_pow, ← stpN_add]
      rw [hx, ih _ _ _ (by omega), times_pow]
      by_cases h2 : n % 2 = 1
      · rw [if_pos h2, ← stpN_add]
        congr 1
        have : e * n = e * (n % 2 + 2 * (n / 2)) := by rw [Nat.mod_add_div]
        rw [this, h2, Nat.mul_add, ← Nat.mul_assoc, Nat.mul_one, Nat.add_mul, Nat.mul_two, Nat.add_mul]
      · rw [if_neg h2]
        congr 1
        have : e * n = e * (n % 2 + 2 * (n / 2)) := by rw [Nat.mod_add_div]
        rw [this, show n % 2 = 0 by omega, Nat.zero_add, ← Nat.mul_assoc, Nat.mul_two]

/-! Feeding. -/
theorem feed_xor (r s : BitVec 32) (c d : BitVec 8) : feed (r ^^^ s) (c ^^^ d) = feed r c ^^^ feed s d := by
  unfold feed
  rw [← stpN_xor]
  congr 1
  simp only [BitVec.truncate_eq_setWidth, BitVec.setWidth_xor]
  ac_rfl

theorem reg_append (r : BitVec 32) (a b : List (BitVec 8)) : reg r (a ++ b) = reg (reg r a) b := by
  simp [reg, List.foldl_append]

theorem reg_zeros (r : BitVec 32) (b : List (BitVec 8)) : reg r b = stpN (8 * b.length) r ^^^ reg 0#32 b := by
  induction b generalizing r with
  | nil => simp [reg, stpN]
  | cons c b ih =>
    show reg (feed r c) b = _ ^^^ reg (feed 0#32 c) b
    rw [ih (feed r c), ih (feed 0#32 c)]
    have h := feed_xor r 0#32 0#8 c
    simp only [BitVec.xor_zero, BitVec.zero_xor] at h
    rw [h, stpN_xor]
    have : feed r 0#8 = stpN 8 r := by simp [feed]
    rw [this, ← stpN_add, List.length_cons, show 8 + 8 * b.length = 8 * (b.length + 1) by omega]
    rw [BitVec.xor_assoc]

theorem more_more (x : BitVec 32) (a b : List (BitVec 8)) : more (more x a) b = more x (a ++ b) := by
  simp [more, reg_append]
theorem more_nil (x : BitVec 32) : more x [] = x := by simp [more, reg]

theorem not_xor (x y : BitVec 32) : ~~~ (x ^^^ y) = ~~~ x ^^^ y := by
  apply BitVec.eq_of_getLsbD_eq
  intro i hi
  simp [hi]

theorem join_sum (a b : List (BitVec 8)) : join (sum a) (sum b) b.length = sum (a ++ b) := by
  unfold join
  rw [show sum (a ++ b) = more (sum a) b from (more_more _ _ _).symm]
  show stpN (8 * b.length) (sum a) ^^^ ~~~ (reg (~~~ 0#32) b) = ~~~ (reg (~~~ (sum a)) b)
  rw [reg_zeros (~~~ (sum a)) b, reg_zeros (~~~ 0#32) b]
  generalize sum a = s
  generalize reg 0#32 b = q
  have e : ~~~ s = s ^^^ ~~~ 0#32 := by
    rw [show (~~~ 0#32 : BitVec 32) = BitVec.allOnes 32 by decide]
    exact BitVec.xor_allOnes.symm
  rw [e, stpN_xor, not_xor, not_xor, not_xor]
  generalize stpN (8 * b.length) s = x
  generalize stpN (8 * b.length) (~~~ 0#32) = y
  apply BitVec.eq_of_getLsbD_eq
  intro i hi
  simp [hi]

theorem join_join (a b c : BitVec 32) (n m : Nat) : join (join a b n) c m = join a (join b c m) (n + m) := by
  unfold join
  rw [stpN_xor, ← stpN_add, show 8 * n + 8 * m = 8 * (n + m) by omega, BitVec.xor_assoc]

/-- Three texts, and the one whose bits are those of an odd number of them. -/
def xor3 : List (BitVec 8) → List (BitVec 8) → List (BitVec 8) → List (BitVec 8)
  | a :: l, b :: m, c :: n => (a ^^^ b ^^^ c) :: xor3 l m n
  | _, _, _ => []

theorem reg_xor3 : ∀ (a b c : List (BitVec 8)) (x y z : BitVec 32), a.length = b.length → b.length = c.length →
    reg (x ^^^ y ^^^ z) (xor3 a b c) = reg x a ^^^ reg y b ^^^ reg z c
  | [], [], [], _, _, _, _, _ => rfl
  | a :: l, b :: m, c :: n, x, y, z, h1, h2 => by
    simp only [xor3]
    show reg (feed (x ^^^ y ^^^ z) (a ^^^ b ^^^ c)) (xor3 l m n) = reg (feed x a) l ^^^ reg (feed y b) m ^^^ reg (feed z c) n
    rw [feed_xor, feed_xor]
    exact reg_xor3 l m n _ _ _ (by simpa using h1) (by simpa using h2)

theorem sum_xor3 (a b c : List (BitVec 8)) (h1 : a.length = b.length) (h2 : b.length = c.length) : sum (xor3 a b c) = sum a ^^^ sum b ^^^ sum c := by
  have h := reg_xor3 a b c (~~~ 0#32) (~~~ 0#32) (~~~ 0#32) h1 h2
  rw [show (~~~ 0#32 ^^^ ~~~ 0#32 ^^^ ~~~ 0#32 : BitVec 32) = ~~~ 0#32 by decide] at h
  unfold sum more
  rw [h]
  generalize reg (~~~ 0#32) a = x
  generalize reg (~~~ 0#32) b = y
  generalize reg (~~~ 0#32) c = z
  apply BitVec.eq_of_getLsbD_eq
  intro i hi
  simp [hi]

/-- The j-th byte of bits that are moved up by s. -/
def piece (bits : BitVec 32) (s j : Nat) : BitVec 8 := ((bits.zeroExtend 64 <<< s) >>> (8 * j)).truncate 8

theorem piece_xor (a b : BitVec 32) (s j : Nat) : piece (a ^^^ b) s j = piece a s j ^^^ piece b s j := by
  unfold piece
  simp only [BitVec.truncate_eq_setWidth, BitVec.setWidth_xor, BitVec.shiftLeft_xor_distrib, BitVec.ushiftRight_xor_distrib]

def pieces (bits : BitVec 32) (s : Nat) : List (BitVec 8) := [piece bits s 0, piece bits s 1, piece bits s 2, piece bits s 3, piece bits s 4]

theorem reg_pieces_xor (a b : BitVec 32) (s : Nat) : reg 0#32 (pieces (a ^^^ b) s) = reg 0#32 (pieces a s) ^^^ reg 0#32 (pieces b s) := by
  simp only [pieces, piece_xor]
  show feed (feed (feed (feed (feed 0#32 _) _) _) _) _ = feed (feed (feed (feed (feed 0#32 _) _) _) _) _ ^^^ feed (feed (feed (feed (feed 0#32 _) _) _) _) _
  rw [← feed_xor, ← feed_xor, ← feed_xor, ← feed_xor, ← feed_xor, BitVec.xor_self]

theorem reg_pieces (bits : BitVec 32) (s : Nat) (hs : s < 8) : reg 0#32 (pieces bits s) = stpN (40 - s) bits :=
  lin_ext (fun b => reg 0#32 (pieces b s)) (fun b => stpN (40 - s) b) (fun a b => reg_pieces_xor a b s) (fun a b => stpN_xor _ a b)
    (fun i hi => by
      have : ∀ s, s < 8 → ∀ i, i < 32 → reg 0#32 (pieces (1#32 <<< i) s) = stpN (40 - s) (1#32 <<< i) := by decide +kernel
      exact this s hs i hi) bits

theorem reg_inj_tail (l : List (BitVec 8)) {x y : BitVec 32} (h : reg x l = reg y l) : x = y := by
  rw [reg_zeros x l, reg_zeros y l] at h
  have h1 : stpN (8 * l.length) x = stpN (8 * l.length) y := by
    have := congrArg (· ^^^ reg 0#32 l) h
    simpa [BitVec.xor_assoc] using this
  have h2 : stpN (8 * l.length) (x ^^^ y) = 0#32 := by rw [stpN_xor, h1, BitVec.xor_self]
  have h3 := stpN_inj0 _ h2
  exact BitVec.xor_eq_zero_iff.1 h3

/-- Two texts that differ by 'bits', s up, in five bytes behind 'p' bytes: unlike sums. -/
theorem sum_turned (p q : List (BitVec 8)) (c0 c1 c2 c3 c4 : BitVec 8) (bits : BitVec 32) (s : Nat) (hs : s < 8) (hb : bits ≠ 0#32) :
    sum (p ++ [c0 ^^^ piece bits s 0, c1 ^^^ piece bits s 1, c2 ^^^ piece bits s 2, c3 ^^^ piece bits s 3, c4 ^^^ piece bits s 4] ++ q) ≠ sum (p ++ [c0, c1, c2, c3, c4] ++ q) := by
  intro h
  have h0 : reg (~~~ 0#32) (p ++ [c0 ^^^ piece bits s 0, c1 ^^^ piece bits s 1, c2 ^^^ piece bits s 2, c3 ^^^ piece bits s 3, c4 ^^^ piece bits s 4] ++ q) = reg (~~~ 0#32) (p ++ [c0, c1, c2, c3, c4] ++ q) := by
    have := congrArg (~~~ ·) h
    simpa [sum, more] using this
  rw [reg_append, reg_append, reg_append _ _ q, reg_append _ p] at h0
  have h1 := reg_inj_tail q h0
  generalize reg (~~~ 0#32) p = r at h1
  have h2 : reg r [c0 ^^^ piece bits s 0, c1 ^^^ piece bits s 1, c2 ^^^ piece bits s 2, c3 ^^^ piece bits s 3, c4 ^^^ piece bits s 4] = reg r [c0, c1, c2, c3, c4] ^^^ reg 0#32 (pieces bits s) := by
    show feed (feed (feed (feed (feed r _) _) _) _) _ = feed (feed (feed (feed (feed r _) _) _) _) _ ^^^ feed (feed (feed (feed (feed 0#32 _) _) _) _) _
    rw [← feed_xor, ← feed_xor, ← feed_xor, ← feed_xor, ← feed_xor, BitVec.xor_zero]
  rw [h2, reg_pieces bits s hs] at h1
  have h3 : stpN (40 - s) bits = 0#32 := by
    have := congrArg (reg r [c0, c1, c2, c3, c4] ^^^ ·) h1
    simpa [← BitVec.xor_assoc] using this
  exact hb (stpN_inj0 _ h3)

end Go.Proofs.Ytkhlgfmldpgebaa.Crc

/- The plain theory of ClockFair. -/
import Derived.Test.YtbibfoahlieccaaP
namespace Go.Proofs.Ytbibfoahlieccaa.P
/-- Victim, where none is cold and one is held by nobody. -/
theorem vic_free {n : Nat} {C : Ck} {m : Nat} (ok : Ok n C m) (hc : ∀ j, j < n → C.cold j = false) (hF : ∃ j, j < n ∧ C.pins j = 0) :
    ∃ (k : Nat) (s' : Nat → Bool), C.pins (pos n C.h k) = 0 ∧ s' (pos n C.h k) = false ∧ (∀ j, j < k → C.pins (pos n C.h j) = 0 → s' (pos n C.h j) = false) ∧ (∀ j, s' j = true → C.seen j = true) ∧
      (∀ j, j < k → C.pins (pos n C.h j) = 0 → C.seen (pos n C.h j) = true) ∧ vic n C = ({ C with h := pos n C.h (k + 1), seen := s' }, (pos n C.h k : Int), true) := by
  have hh := ok.h
  have hn : pos n C.h n = C.h := by have := pos_n (n := n) (h := C.h) 0; rw [Nat.add_zero, pos_zero hh] at this; exact this
  rcases vic1_spec C n C.h hh with ⟨k, hk, h1, _, h3⟩ | ⟨h1, h2⟩
  · unfold hit at h1; rw [hc _ (pos_lt hh k)] at h1; cases h1
  · rw [hn] at h2
    rcases vic2_spec C.pins (2 * n) C.h C.seen hh with ⟨k, s', hk, f1, f2, f3, f4, _, f6, h7⟩ | ⟨s', _, _, _, h6, h7⟩
    · exact ⟨k, s', (free_iff ok _).1 f1, f2, fun j hj hz => f3 j hj ((free_iff ok _).2 hz), f4, fun j hj hz => (f6 j hj ((free_iff ok _).2 hz)).1, by unfold vic; rw [h2]; simp only []; rw [h7]⟩
    · obtain ⟨j, hj, hz⟩ := hF
      obtain ⟨k, hk, rfl⟩ := pos_all hh hj
      have := (h6 (n + k) (by omega) (by rw [pos_n]; exact (free_iff ok _).2 hz)).2 k (by omega)
      rw [pos_n] at this
      exact absurd rfl this
/-- How many frames that nobody holds the hand meets in T steps. -/
def cq (n : Nat) (pins : Nat → Int) (h : Nat) : Nat → Nat
  | 0 => 0
  | T + 1 => cq n pins h T + if pins (pos n h T) = 0 then 1 else 0
theorem cq_succ (n : Nat) (pins : Nat → Int) (h T : Nat) : cq n pins h (T + 1) = cq n pins h T + if pins (pos n h T) = 0 then 1 else 0 := rfl
/-- How many there are. -/
def fc (pins : Nat → Int) : Nat → Nat
  | 0 => 0
  | k + 1 => fc pins k + if pins k = 0 then 1 else 0
theorem cq_mono {n : Nat} (pins : Nat → Int) (h : Nat) {T U : Nat} (hTU : T ≤ U) : cq n pins h T ≤ cq n pins h U := by
  induction U with
  | zero => rw [Nat.le_zero.1 hTU]; exact Nat.le_refl _
  | succ U ih =>
    by_cases e : T = U + 1
    · rw [e]; exact Nat.le_refl _
    · exact Nat.le_trans (ih (by omega)) (Nat.le_add_right _ _)
theorem cq_nx {n h : Nat} (hh : h < n) (pins : Nat → Int) (T : Nat) : cq n pins (nx n h) T + (if pins h = 0 then 1 else 0) = cq n pins h (T + 1) := by
  induction T with
  | zero => simp only [cq, pos_zero hh]
  | succ T ih =>
    show cq n pins (nx n h) T + (if pins (pos n (nx n h) T) = 0 then 1 else 0) + _ = cq n pins h (T + 1) + _
    rw [← ih, pos_nx hh]
    omega
theorem cq_turn {n h : Nat} (hh : h < n) (pins : Nat → Int) : cq n pins (nx n h) n = cq n pins h n := by
  have h1 := cq_nx hh pins n
  have hn : pos n h n = h := by have := pos_n (n := n) (h := h) 0; rw [Nat.add_zero, pos_zero hh] at this; exact this
  have h2 : cq n pins h (n + 1) = cq n pins h n + if pins h = 0 then 1 else 0 := by show _ + _ = _; rw [hn]
  omega
theorem cq_zero {n : Nat} (pins : Nat → Int) : ∀ T, T ≤ n → cq n pins 0 T = fc pins T
  | 0, _ => rfl
  | T + 1, h => by
    show cq n pins 0 T + _ = fc pins T + _
    rw [cq_zero pins T (by omega)]
    have : pos n 0 T = T := by unfold pos; rw [Nat.zero_add, Nat.mod_eq_of_lt (by omega)]
    rw [this]
theorem cq_full {n : Nat} (pins : Nat → Int) : ∀ h, h < n → cq n pins h n = fc pins n
  | 0, _ => cq_zero pins n (Nat.le_refl _)
  | h + 1, hh => by
    have e : h + 1 = nx n h := by unfold nx; rw [if_neg (by omega)]
    rw [e, cq_turn (by omega), cq_full pins h (by omega)]
theorem cq_add {n h : Nat} (hh : h < n) (pins : Nat → Int) (T : Nat) : cq n pins h (n + T) = fc pins n + cq n pins h T := by
  induction T with
  | zero => rw [Nat.add_zero, cq_full pins h hh]; rfl
  | succ T ih =>
    rw [show n + (T + 1) = (n + T) + 1 from rfl, cq_succ, cq_succ, ih, pos_n]; omega
theorem fc_pos {pins : Nat → Int} : ∀ {n}, 0 < fc pins n → ∃ j, j < n ∧ pins j = 0
  | 0, h => by cases h
  | n + 1, h => by
    by_cases hz : pins n = 0
    · exact ⟨n, by omega, hz⟩
    · have : fc pins (n + 1) = fc pins n := by show fc pins n + _ = _; rw [if_neg hz]; rfl
      rw [this] at h
      obtain ⟨j, hj, hz⟩ := fc_pos h
      exact ⟨j, by omega, hz⟩
/-! ### The first victims -/
structure Ph1 (n : Nat) (C : Ck) (h0 T c : Nat) : Prop where
  h : C.h = pos n h0 T
  clear : ∀ i, i < T → C.pins (pos n h0 i) = 0 → C.seen (pos n h0 i) = false
  cnt : c ≤ cq n C.pins h0 T
theorem ph1_start {n : Nat} {C : Ck} {m : Nat} (ok : Ok n C m) : Ph1 n C C.h 0 0 := ⟨(pos_zero ok.h).symm, fun i hi => by omega, Nat.zero_le _⟩
theorem ph1_step {n : Nat} {C : Ck} {m h0 T c : Nat} (ok : Ok n C m) (hc : ∀ j, j < n → C.cold j = false) (hF : ∃ j, j < n ∧ C.pins j = 0) (p : Ph1 n C h0 T c) :
    ∃ T', Ph1 n (vic n C).1 h0 T' (c + 1) ∧ (vic n C).1.pins = C.pins ∧ (vic n C).1.cold = C.cold := by
  obtain ⟨k, s', f1, f2, f3, f4, _, e⟩ := vic_free ok hc hF
  refine ⟨T + (k + 1), ⟨?_, ?_, ?_⟩, by rw [e], by rw [e]⟩
  · rw [e]; show pos n C.h (k + 1) = _; rw [p.h, pos_pos]
  · rw [e]
    intro i hi hz
    show s' (pos n h0 i) = false
    have hz' : C.pins (pos n h0 i) = 0 := hz
    by_cases h1 : i < T
    · cases hs : s' (pos n h0 i) with
      | false => rfl
      | true => have := p.clear i h1 hz'; rw [f4 _ hs] at this; cases this
    · have e2 : pos n h0 i = pos n C.h (i - T) := by rw [p.h, pos_pos]; congr 1; omega
      rw [e2] at hz' ⊢
      by_cases h2 : i - T = k
      · rw [h2]; exact f2
      · exact f3 _ (by omega) hz'
  · rw [e]
    show c + 1 ≤ cq n C.pins h0 (T + (k + 1))
    have h1 : cq n C.pins h0 (T + (k + 1)) = cq n C.pins h0 (T + k) + 1 := by
      have : pos n h0 (T + k) = pos n C.h k := by rw [p.h, pos_pos]
      rw [show T + (k + 1) = (T + k) + 1 from rfl, cq_succ, this, if_pos f1]
    have h2 := cq_mono (n := n) C.pins h0 (show T ≤ T + k by omega)
    have := p.cnt
    omega
theorem ph1_end {n : Nat} {C : Ck} {h0 T : Nat} (hh : h0 < n) (p : Ph1 n C h0 T (fc C.pins n)) : ∀ j, j < n → C.pins j = 0 → C.seen j = false := by
  intro j hj hz
  obtain ⟨i, hi, rfl⟩ := pos_all hh hj
  by_cases h1 : i < T
  · exact p.clear i h1 hz
  · have h2 := cq_mono (n := n) C.pins h0 (show T ≤ i by omega)
    have h3 : cq n C.pins h0 (i + 1) = cq n C.pins h0 i + 1 := by show _ + _ = _; rw [if_pos hz]
    have h4 := cq_mono (n := n) C.pins h0 (show i + 1 ≤ n by omega)
    rw [cq_full C.pins h0 hh] at h4
    have := p.cnt
    omega
/-! ### The rounds -/
structure Ph2 (n : Nat) (C : Ck) (h1 T c : Nat) : Prop where
  h : C.h = pos n h1 T
  clear : ∀ j, j < n → C.pins j = 0 → C.seen j = false
  cnt : cq n C.pins h1 T = c
theorem ph2_start {n : Nat} {C : Ck} {m : Nat} (ok : Ok n C m) (hcl : ∀ j, j < n → C.pins j = 0 → C.seen j = false) : Ph2 n C C.h 0 0 := ⟨(pos_zero ok.h).symm, hcl, rfl⟩
theorem ph2_step {n : Nat} {C : Ck} {m h1 T c : Nat} (ok : Ok n C m) (hc : ∀ j, j < n → C.cold j = false) (hF : ∃ j, j < n ∧ C.pins j = 0) (p : Ph2 n C h1 T c) :
    ∃ t, C.pins (pos n h1 t) = 0 ∧ cq n C.pins h1 t = c ∧ Ph2 n (vic n C).1 h1 (t + 1) (c + 1) ∧ (vic n C).2.1 = (pos n h1 t : Int) ∧ (vic n C).2.2 = true ∧ (vic n C).1.pins = C.pins ∧ (vic n C).1.cold = C.cold := by
  obtain ⟨k, s', f1, f2, f3, f4, f5, e⟩ := vic_free ok hc hF
  have hno : ∀ j, j < k → C.pins (pos n C.h j) ≠ 0 := fun j hj hz => by
    have h1 := f5 j hj hz
    rw [p.clear _ (pos_lt ok.h j) hz] at h1; cases h1
  have hp : ∀ j, pos n C.h j = pos n h1 (T + j) := fun j => by rw [p.h, pos_pos]
  have hcq : ∀ j, j ≤ k → cq n C.pins h1 (T + j) = c := fun j => by
    induction j with
    | zero => intro _; exact p.cnt
    | succ j ih =>
      intro hj
      rw [show T + (j + 1) = (T + j) + 1 from rfl, cq_succ, ih (by omega), ← hp, if_neg (hno j (by omega))]; rfl
  refine ⟨T + k, by rw [← hp]; exact f1, hcq k (Nat.le_refl _), ⟨?_, ?_, ?_⟩, by rw [e, ← hp], by rw [e], by rw [e], by rw [e]⟩
  · rw [e]; show pos n C.h (k + 1) = _; rw [hp]; congr 1
  · rw [e]
    intro j hj hz
    show s' j = false
    cases hs : s' j with
    | false => rfl
    | true => have := p.clear j hj hz; rw [f4 _ hs] at this; cases this
  · rw [e]
    show cq n C.pins h1 (T + k + 1) = c + 1
    rw [cq_succ, hcq k (Nat.le_refl _), ← hp, if_pos f1]
/-- The order of the frames that nobody holds, from where the hand stands. -/
theorem cq_find {n : Nat} (pins : Nat → Int) (h : Nat) : ∀ T i, i < cq n pins h T → ∃ t, t < T ∧ pins (pos n h t) = 0 ∧ cq n pins h t = i
  | 0, i, hi => by cases hi
  | T + 1, i, hi => by
    by_cases h1 : i < cq n pins h T
    · obtain ⟨t, ht, a, b⟩ := cq_find pins h T i h1
      exact ⟨t, by omega, a, b⟩
    · by_cases hz : pins (pos n h T) = 0
      · have : cq n pins h (T + 1) = cq n pins h T + 1 := by show _ + _ = _; rw [if_pos hz]
        exact ⟨T, by omega, hz, by omega⟩
      · have : cq n pins h (T + 1) = cq n pins h T := by show _ + _ = _; rw [if_neg hz]; rfl
        omega
theorem cq_uniq {n : Nat} {pins : Nat → Int} {h t u : Nat} (ht : pins (pos n h t) = 0) (hu : pins (pos n h u) = 0) (e : cq n pins h t = cq n pins h u) : t = u := by
  have key : ∀ a b, pins (pos n h a) = 0 → a < b → cq n pins h a < cq n pins h b := fun a b ha hab => by
    have h1 : cq n pins h (a + 1) = cq n pins h a + 1 := by show _ + _ = _; rw [if_pos ha]
    have := cq_mono (n := n) pins h (show a + 1 ≤ b by omega)
    omega
  rcases Nat.lt_trichotomy t u with h1 | h1 | h1
  · have := key t u ht h1; omega
  · exact h1
  · have := key u t hu h1; omega
open Classical in
noncomputable def tix (n : Nat) (pins : Nat → Int) (h i : Nat) : Nat := if hh : ∃ t, t < n ∧ pins (pos n h t) = 0 ∧ cq n pins h t = i then choose hh else 0
noncomputable def vf (n : Nat) (pins : Nat → Int) (h i : Nat) : Nat := pos n h (tix n pins h i)
theorem tix_spec {n : Nat} {pins : Nat → Int} {h i : Nat} (hh : h < n) (hi : i < fc pins n) : tix n pins h i < n ∧ pins (pos n h (tix n pins h i)) = 0 ∧ cq n pins h (tix n pins h i) = i := by
  have hex : ∃ t, t < n ∧ pins (pos n h t) = 0 ∧ cq n pins h t = i := by
    obtain ⟨t, a, b, c⟩ := cq_find (n := n) pins h n i (by rw [cq_full pins h hh]; exact hi)
    exact ⟨t, a, b, c⟩
  unfold tix
  rw [dif_pos hex]
  exact Classical.choose_spec hex
theorem vf_inj {n : Nat} {pins : Nat → Int} {h i j : Nat} (hh : h < n) (hi : i < fc pins n) (hj : j < fc pins n) (e : vf n pins h i = vf n pins h j) : i = j := by
  obtain ⟨a1, a2, a3⟩ := tix_spec hh hi
  obtain ⟨b1, b2, b3⟩ := tix_spec hh hj
  have := pos_inj hh a1 b1 e
  rw [← a3, ← b3, this]
theorem vf_of {n : Nat} {pins : Nat → Int} {h t i r : Nat} (hh : h < n) (hi : i < fc pins n) (hz : pins (pos n h t) = 0) (hc : cq n pins h t = r * fc pins n + i) : pos n h t = vf n pins h i := by
  have key : ∀ r t, pins (pos n h t) = 0 → cq n pins h t = r * fc pins n + i → pos n h t = vf n pins h i := fun r => by
    induction r with
    | zero =>
      intro t hz hc
      rw [Nat.zero_mul, Nat.zero_add] at hc
      obtain ⟨a1, a2, a3⟩ := tix_spec hh hi
      unfold vf
      rw [cq_uniq hz a2 (by rw [hc, a3])]
    | succ r ih =>
      intro t hz hc
      have hge : n ≤ t := by
        rcases Nat.lt_or_ge t n with h1 | h1
        · have h2 : cq n pins h (t + 1) = cq n pins h t + 1 := by show _ + _ = _; rw [if_pos hz]
          have h3 := cq_mono (n := n) pins h (show t + 1 ≤ n by omega)
          rw [cq_full pins h hh] at h3
          rw [Nat.succ_mul] at hc
          omega
        · exact h1
      obtain ⟨u, rfl⟩ : ∃ u, t = n + u := ⟨t - n, by omega⟩
      rw [pos_n] at hz ⊢
      rw [cq_add hh, Nat.succ_mul] at hc
      exact ih u hz (by omega)
  exact key r t hz hc
end Go.Proofs.Ytbibfoahlieccaa.P

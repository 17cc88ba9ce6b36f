/- The plain theory of clocks: numbers and functions alone. -/
namespace Go.Proofs.Ytbibfoahlieccaa.P
/-- A clock over n frames: where the hand stands; what was said of each frame. -/
structure Ck where
  h : Nat
  seen : Nat → Bool
  cold : Nat → Bool
  pins : Nat → Int
def upd {α : Type} (f : Nat → α) (i : Nat) (v : α) : Nat → α := fun j => if j = i then v else f j
theorem upd_same {α : Type} (f : Nat → α) (i : Nat) (v : α) : upd f i v i = v := by simp [upd]
theorem upd_other {α : Type} (f : Nat → α) {i j : Nat} (v : α) (h : j ≠ i) : upd f i v j = f j := by simp [upd, h]
def nx (n h : Nat) : Nat := if h + 1 = n then 0 else h + 1
theorem nx_mod {n h : Nat} (hh : h < n) : nx n h = (h + 1) % n := by
  unfold nx
  split
  · rename_i e; rw [e, Nat.mod_self]
  · rw [Nat.mod_eq_of_lt (by omega)]
theorem nx_lt {n h : Nat} (hh : h < n) : nx n h < n := by unfold nx; split <;> omega
def hit (C : Ck) (j : Nat) : Bool := C.cold j && (C.pins j == 0)
def vic1 (n : Nat) (C : Ck) : Nat → Nat → Option Nat × Nat
  | 0, h => (none, h)
  | f + 1, h => if hit C h then (some h, nx n h) else vic1 n C f (nx n h)
def vic2 (n : Nat) (pins : Nat → Int) : Nat → Nat → (Nat → Bool) → Option Nat × Nat × (Nat → Bool)
  | 0, h, s => (none, h, s)
  | f + 1, h, s => if 0 < pins h then vic2 n pins f (nx n h) s else if s h then vic2 n pins f (nx n h) (upd s h false) else (some h, nx n h, s)
/-- What Victim does and answers. -/
def vic (n : Nat) (C : Ck) : Ck × Int × Bool :=
  match vic1 n C n C.h with
  | (some v, h) => ({ C with h := h }, v, true)
  | (none, h) => match vic2 n C.pins (2 * n) h C.seen with
    | (some v, h', s) => ({ C with h := h', seen := s }, v, true)
    | (none, h', s) => ({ C with h := h', seen := s }, 0, false)
/-- A call. -/
def stp (n : Nat) (C : Ck) (kind i : Int) (is : Bool) : Ck × Int × Bool :=
  if kind = 5 then vic n C
  else if 0 ≤ i ∧ i < n then
    if kind = 0 then ({ C with seen := upd C.seen i.toNat true }, 0, false)
    else if kind = 1 then ({ C with pins := upd C.pins i.toNat (C.pins i.toNat + 1) }, 0, false)
    else if kind = 2 then if C.pins i.toNat = 0 then (C, 0, false) else ({ C with pins := upd C.pins i.toNat (C.pins i.toNat - 1) }, 0, true)
    else if kind = 3 then ({ C with cold := upd C.cold i.toNat is }, 0, false)
    else if kind = 4 then ({ C with seen := upd C.seen i.toNat false, cold := upd C.cold i.toNat false }, 0, false)
    else (C, 0, false)
  else (C, 0, false)
/-- Of a frame that there is. -/
def inn (n : Nat) (i : Int) (X C : Ck) : Ck := if 0 ≤ i ∧ i < n then X else C
theorem inn_yes {n : Nat} {i : Int} (h : 0 ≤ i ∧ i < n) (X C : Ck) : inn n i X C = X := if_pos h
theorem inn_no {n : Nat} {i : Int} (h : ¬ (0 ≤ i ∧ i < n)) (X C : Ck) : inn n i X C = C := if_neg h
def new : Ck := ⟨0, fun _ => false, fun _ => false, fun _ => 0⟩
/-- What holds of every clock that was made and told m things. -/
structure Ok (n : Nat) (C : Ck) (m : Nat) : Prop where
  h : C.h < n
  lo : ∀ j, 0 ≤ C.pins j
  hi : ∀ j, C.pins j ≤ m
theorem ok_new {n : Nat} (h : 1 ≤ n) : Ok n new 0 := ⟨by show 0 < n; omega, fun _ => Int.le_refl _, fun _ => Int.le_refl _⟩
theorem Ok.mono {n : Nat} {C : Ck} {m m' : Nat} (h : Ok n C m) (hm : m ≤ m') : Ok n C m' := ⟨h.h, h.lo, fun j => Int.le_trans (h.hi j) (by omega)⟩
/-! ### Positions -/
def pos (n h k : Nat) : Nat := (h + k) % n
theorem pos_lt {n h : Nat} (hh : h < n) (k : Nat) : pos n h k < n := Nat.mod_lt _ (by omega)
theorem pos_zero {n h : Nat} (hh : h < n) : pos n h 0 = h := by unfold pos; rw [Nat.add_zero, Nat.mod_eq_of_lt hh]
theorem pos_nx {n h : Nat} (hh : h < n) (k : Nat) : pos n (nx n h) k = pos n h (k + 1) := by
  unfold pos
  rw [nx_mod hh, Nat.mod_add_mod]
  congr 1; omega
theorem pos_one {n h : Nat} (hh : h < n) : pos n h 1 = nx n h := by unfold pos; rw [nx_mod hh]
theorem pos_pos {n h : Nat} (k l : Nat) : pos n (pos n h k) l = pos n h (k + l) := by
  unfold pos; rw [Nat.mod_add_mod]; congr 1; omega
theorem pos_n {n h : Nat} (k : Nat) : pos n h (n + k) = pos n h k := by
  unfold pos
  rw [show h + (n + k) = (h + k) + n by omega, Nat.add_mod_right]
theorem pos_inj {n h j k : Nat} (hh : h < n) (hj : j < n) (hk : k < n) (e : pos n h j = pos n h k) : j = k := by
  unfold pos at e
  have h1 : (h + j) % n = if h + j < n then h + j else h + j - n := by
    split
    · exact Nat.mod_eq_of_lt (by assumption)
    · rw [Nat.mod_eq_sub_mod (by omega), Nat.mod_eq_of_lt (by omega)]
  have h2 : (h + k) % n = if h + k < n then h + k else h + k - n := by
    split
    · exact Nat.mod_eq_of_lt (by assumption)
    · rw [Nat.mod_eq_sub_mod (by omega), Nat.mod_eq_of_lt (by omega)]
  rw [h1, h2] at e
  split at e <;> split at e <;> omega
theorem pos_all {n h : Nat} (hh : h < n) {j : Nat} (hj : j < n) : ∃ k, k < n ∧ pos n h k = j := by
  by_cases hc : h ≤ j
  · exact ⟨j - h, by omega, by unfold pos; rw [show h + (j - h) = j by omega, Nat.mod_eq_of_lt hj]⟩
  · exact ⟨n + j - h, by omega, by unfold pos; rw [show h + (n + j - h) = n + j by omega, Nat.add_mod_left, Nat.mod_eq_of_lt hj]⟩
/-! ### The first search -/
theorem vic1_spec {n : Nat} (C : Ck) : ∀ (f h : Nat), h < n →
    (∃ k, k < f ∧ hit C (pos n h k) = true ∧ (∀ j, j < k → hit C (pos n h j) = false) ∧ vic1 n C f h = (some (pos n h k), pos n h (k + 1))) ∨ ((∀ k, k < f → hit C (pos n h k) = false) ∧ vic1 n C f h = (none, pos n h f))
  | 0, h, hh => .inr ⟨fun k hk => by omega, by rw [pos_zero hh]; rfl⟩
  | f + 1, h, hh => by
    unfold vic1
    cases hc : hit C h with
    | true =>
      refine .inl ⟨0, by omega, by rw [pos_zero hh]; exact hc, fun j hj => by omega, ?_⟩
      rw [pos_zero hh, if_pos rfl, Nat.zero_add, pos_one hh]
    | false =>
      rw [if_neg (by simp)]
      rcases vic1_spec C f (nx n h) (nx_lt hh) with ⟨k, hk, h1, h2, h3⟩ | ⟨h1, h2⟩
      · refine .inl ⟨k + 1, by omega, by rw [← pos_nx hh]; exact h1, fun j hj => ?_, by rw [h3, pos_nx hh, pos_nx hh]⟩
        cases j with
        | zero => rw [pos_zero hh]; exact hc
        | succ j => rw [← pos_nx hh]; exact h2 j (by omega)
      · refine .inr ⟨fun k hk => ?_, by rw [h2, pos_nx hh]⟩
        cases k with
        | zero => rw [pos_zero hh]; exact hc
        | succ k => rw [← pos_nx hh]; exact h1 k (by omega)
/-! ### The second search -/
/-- Frames that nobody holds. -/
def free (pins : Nat → Int) (j : Nat) : Prop := ¬ 0 < pins j
theorem vic2_spec {n : Nat} (pins : Nat → Int) : ∀ (f h : Nat) (s : Nat → Bool), h < n →
    (∃ k s', k < f ∧ free pins (pos n h k) ∧ s' (pos n h k) = false ∧ (∀ j, j < k → free pins (pos n h j) → s' (pos n h j) = false) ∧ (∀ j, s' j = true → s j = true) ∧ (∀ j, ¬ free pins j → s' j = s j) ∧
      (∀ j, j < k → free pins (pos n h j) → s (pos n h j) = true ∧ ∀ i, i < j → pos n h i ≠ pos n h j) ∧ vic2 n pins f h s = (some (pos n h k), pos n h (k + 1), s')) ∨
    (∃ s', (∀ j, j < f → free pins (pos n h j) → s' (pos n h j) = false) ∧ (∀ j, s' j = true → s j = true) ∧ (∀ j, ¬ free pins j → s' j = s j) ∧
      (∀ j, j < f → free pins (pos n h j) → s (pos n h j) = true ∧ ∀ i, i < j → pos n h i ≠ pos n h j) ∧ vic2 n pins f h s = (none, pos n h f, s'))
  | 0, h, s, hh => .inr ⟨s, fun j hj => by omega, fun j hj => hj, fun j _ => rfl, fun j hj => by omega, by rw [pos_zero hh]; rfl⟩
  | f + 1, h, s, hh => by
    unfold vic2
    by_cases hp : 0 < pins h
    · rw [if_pos hp]
      have hz : ¬ free pins (pos n h 0) := by rw [pos_zero hh]; unfold free; omega
      rcases vic2_spec pins f (nx n h) s (nx_lt hh) with ⟨k, s', hk, h1, h2, h3, h4, h5, h6, h7⟩ | ⟨s', h3, h4, h5, h6, h7⟩
      · refine .inl ⟨k + 1, s', by omega, by rw [← pos_nx hh]; exact h1, by rw [← pos_nx hh]; exact h2, fun j hj hf => ?_, h4, h5, fun j hj hf => ?_, by rw [h7, pos_nx hh, pos_nx hh]⟩
        · cases j with
          | zero => exact absurd hf hz
          | succ j => rw [← pos_nx hh] at hf ⊢; exact h3 j (by omega) hf
        · cases j with
          | zero => exact absurd hf hz
          | succ j =>
            rw [← pos_nx hh] at hf ⊢
            obtain ⟨e1, e2⟩ := h6 j (by omega) hf
            refine ⟨e1, fun i hi e => ?_⟩
            cases i with
            | zero => rw [e] at hz; exact hz hf
            | succ i => rw [← pos_nx hh] at e; exact e2 i (by omega) e
      · refine .inr ⟨s', fun j hj hf => ?_, h4, h5, fun j hj hf => ?_, by rw [h7, pos_nx hh]⟩
        · cases j with
          | zero => exact absurd hf hz
          | succ j => rw [← pos_nx hh] at hf ⊢; exact h3 j (by omega) hf
        · cases j with
          | zero => exact absurd hf hz
          | succ j =>
            rw [← pos_nx hh] at hf ⊢
            obtain ⟨e1, e2⟩ := h6 j (by omega) hf
            refine ⟨e1, fun i hi e => ?_⟩
            cases i with
            | zero => rw [e] at hz; exact hz hf
            | succ i => rw [← pos_nx hh] at e; exact e2 i (by omega) e
    · rw [if_neg hp]
      cases hs : s h with
      | false =>
        refine .inl ⟨0, s, by omega, by rw [pos_zero hh]; exact hp, by rw [pos_zero hh]; exact hs, fun j hj => by omega, fun j hj => hj, fun j _ => rfl, fun j hj => by omega, ?_⟩
        rw [if_neg (by simp), pos_zero hh, Nat.zero_add, pos_one hh]
      | true =>
        rw [if_pos rfl]
        have hu : ∀ j, upd s h false j = true → s j = true := fun j hj => by unfold upd at hj; split at hj <;> simp_all
        have hfz : ∀ s' : Nat → Bool, (∀ j, s' j = true → upd s h false j = true) → s' h = false := fun s' h4 => by
          cases e : s' h with
          | false => rfl
          | true => have := h4 h e; rw [upd_same] at this; cases this
        have hne : ∀ s' : Nat → Bool, (∀ j, ¬ free pins j → s' j = upd s h false j) → ∀ j, ¬ free pins j → s' j = s j := fun s' h5 j hj => by
          rw [h5 j hj, upd_other]
          rintro rfl; exact hj hp
        have hv : ∀ j, (upd s h false (pos n (nx n h) j) = true ∧ ∀ i, i < j → pos n (nx n h) i ≠ pos n (nx n h) j) → s (pos n h (j + 1)) = true ∧ ∀ i, i < j + 1 → pos n h i ≠ pos n h (j + 1) := fun j hj => by
          rw [pos_nx hh] at hj
          obtain ⟨e1, e2⟩ := hj
          refine ⟨hu _ e1, fun i hi e => ?_⟩
          cases i with
          | zero => rw [← e, pos_zero hh, upd_same] at e1; cases e1
          | succ i => rw [← pos_nx hh] at e; exact e2 i (by omega) e
        rcases vic2_spec pins f (nx n h) (upd s h false) (nx_lt hh) with ⟨k, s', hk, h1, h2, h3, h4, h5, h6, h7⟩ | ⟨s', h3, h4, h5, h6, h7⟩
        · refine .inl ⟨k + 1, s', by omega, by rw [← pos_nx hh]; exact h1, by rw [← pos_nx hh]; exact h2, fun j hj hf => ?_, fun j hj => hu j (h4 j hj), hne s' h5, fun j hj hf => ?_, by rw [h7, pos_nx hh, pos_nx hh]⟩
          · cases j with
            | zero => rw [pos_zero hh]; exact hfz s' h4
            | succ j => rw [← pos_nx hh] at hf ⊢; exact h3 j (by omega) hf
          · cases j with
            | zero => rw [pos_zero hh]; exact ⟨hs, fun i hi => by omega⟩
            | succ j => exact hv j (h6 j (by omega) (by rw [pos_nx hh]; exact hf))
        · refine .inr ⟨s', fun j hj hf => ?_, fun j hj => hu j (h4 j hj), hne s' h5, fun j hj hf => ?_, by rw [h7, pos_nx hh]⟩
          · cases j with
            | zero => rw [pos_zero hh]; exact hfz s' h4
            | succ j => rw [← pos_nx hh] at hf ⊢; exact h3 j (by omega) hf
          · cases j with
            | zero => rw [pos_zero hh]; exact ⟨hs, fun i hi => by omega⟩
            | succ j => exact hv j (h6 j (by omega) (by rw [pos_nx hh]; exact hf))

/-! ### Victim -/
theorem free_iff {n : Nat} {C : Ck} {m : Nat} (ok : Ok n C m) (j : Nat) : free C.pins j ↔ C.pins j = 0 := by
  unfold free; have := ok.lo j; omega
theorem vic_cases {n : Nat} {C : Ck} {m : Nat} (ok : Ok n C m) :
    (∃ (v : Nat) (s : Nat → Bool) (h' : Nat), v < n ∧ C.pins v = 0 ∧ h' < n ∧ vic n C = ({ C with h := h', seen := s }, (v : Int), true) ∧ ((∃ j, j < n ∧ hit C j = true) → hit C v = true)) ∨
    (∃ (s : Nat → Bool) (h' : Nat), (∀ j, j < n → C.pins j ≠ 0) ∧ h' < n ∧ vic n C = ({ C with h := h', seen := s }, 0, false)) := by
  have hh := ok.h
  rcases vic1_spec C n C.h hh with ⟨k, hk, h1, _, h3⟩ | ⟨h1, h2⟩
  · refine .inl ⟨pos n C.h k, C.seen, pos n C.h (k + 1), pos_lt hh k, ?_, pos_lt hh _, ?_, fun _ => h1⟩
    · have : (C.pins (pos n C.h k) == 0) = true := by unfold hit at h1; simp only [Bool.and_eq_true] at h1; exact h1.2
      simpa using this
    · unfold vic; rw [h3]
  · have hnh : ¬ ∃ j, j < n ∧ hit C j = true := by
      rintro ⟨j, hj, hjt⟩
      obtain ⟨k, hk, rfl⟩ := pos_all hh hj
      rw [h1 k hk] at hjt; cases hjt
    have hp := pos_lt hh n
    rcases vic2_spec C.pins (2 * n) (pos n C.h n) C.seen hp with ⟨k, s', hk, f1, _, _, _, _, _, h7⟩ | ⟨s', _, _, _, h6, h7⟩
    · refine .inl ⟨_, s', _, pos_lt hp k, (free_iff ok _).1 f1, pos_lt hp (k + 1), by unfold vic; rw [h2]; simp only []; rw [h7], fun h => absurd h hnh⟩
    · refine .inr ⟨s', _, fun j hj hz => ?_, pos_lt hp (2 * n), by unfold vic; rw [h2]; simp only []; rw [h7]⟩
      obtain ⟨k, hk, rfl⟩ := pos_all hp hj
      have := (h6 (n + k) (by omega) (by rw [pos_n]; exact (free_iff ok _).2 hz)).2 k (by omega)
      rw [pos_n] at this
      exact this rfl
theorem ok_stp {n : Nat} {C : Ck} {m : Nat} (ok : Ok n C m) (kind i : Int) (is : Bool) : Ok n (stp n C kind i is).1 (m + 1) := by
  have h1 := ok.mono (Nat.le_succ m)
  unfold stp
  by_cases h5 : kind = 5
  · rw [if_pos h5]
    rcases vic_cases ok with ⟨v, s, h', _, _, hh, hv, _⟩ | ⟨s, h', _, hh, hv⟩
    · rw [hv]; exact ⟨hh, h1.lo, h1.hi⟩
    · rw [hv]; exact ⟨hh, h1.lo, h1.hi⟩
  · rw [if_neg h5]
    by_cases hi : 0 ≤ i ∧ i < n
    · rw [if_pos hi]
      by_cases h0 : kind = 0
      · rw [if_pos h0]; exact ⟨h1.h, h1.lo, h1.hi⟩
      rw [if_neg h0]
      by_cases h2 : kind = 1
      · rw [if_pos h2]
        refine ⟨h1.h, fun j => ?_, fun j => ?_⟩
        · show 0 ≤ upd C.pins i.toNat (C.pins i.toNat + 1) j
          unfold upd; split
          · have := ok.lo i.toNat; omega
          · exact ok.lo j
        · show upd C.pins i.toNat (C.pins i.toNat + 1) j ≤ _
          unfold upd; split
          · have := ok.hi i.toNat; omega
          · exact h1.hi j
      rw [if_neg h2]
      by_cases h3 : kind = 2
      · rw [if_pos h3]
        by_cases hz : C.pins i.toNat = 0
        · rw [if_pos hz]; exact h1
        · rw [if_neg hz]
          refine ⟨h1.h, fun j => ?_, fun j => ?_⟩
          · show 0 ≤ upd C.pins i.toNat (C.pins i.toNat - 1) j
            unfold upd; split
            · have := ok.lo i.toNat; omega
            · exact ok.lo j
          · show upd C.pins i.toNat (C.pins i.toNat - 1) j ≤ _
            unfold upd; split
            · have := h1.hi i.toNat; omega
            · exact h1.hi j
      rw [if_neg h3]
      by_cases h4 : kind = 3
      · rw [if_pos h4]; exact ⟨h1.h, h1.lo, h1.hi⟩
      rw [if_neg h4]
      by_cases h6 : kind = 4
      · rw [if_pos h6]; exact ⟨h1.h, h1.lo, h1.hi⟩
      rw [if_neg h6]; exact h1
    · rw [if_neg hi]; exact h1
/-- Is there a frame that nobody holds among the first k? -/
def anyFree (C : Ck) : Nat → Bool
  | 0 => false
  | k + 1 => anyFree C k || (C.pins k == 0)
theorem anyFree_iff (C : Ck) (n : Nat) : anyFree C n = true ↔ ∃ j, j < n ∧ C.pins j = 0 := by
  induction n with
  | zero => simp [anyFree]
  | succ n ih =>
    simp only [anyFree, Bool.or_eq_true, ih, beq_iff_eq]
    constructor
    · rintro (⟨j, hj, h⟩ | h)
      · exact ⟨j, by omega, h⟩
      · exact ⟨n, by omega, h⟩
    · rintro ⟨j, hj, h⟩
      by_cases e : j = n
      · subst e; exact .inr h
      · exact .inl ⟨j, by omega, h⟩
/-- Is there a cold one that nobody holds? -/
def anyHit (C : Ck) : Nat → Bool
  | 0 => false
  | k + 1 => anyHit C k || hit C k
theorem anyHit_iff (C : Ck) (n : Nat) : anyHit C n = true ↔ ∃ j, j < n ∧ hit C j = true := by
  induction n with
  | zero => simp [anyHit]
  | succ n ih =>
    simp only [anyHit, Bool.or_eq_true, ih]
    constructor
    · rintro (⟨j, hj, h⟩ | h)
      · exact ⟨j, by omega, h⟩
      · exact ⟨n, by omega, h⟩
    · rintro ⟨j, hj, h⟩
      by_cases e : j = n
      · subst e; exact .inr h
      · exact .inl ⟨j, by omega, h⟩
/-- P12.4, the first: what is given up is held by nobody; if one is not held there is one. -/
theorem vic_pins {n : Nat} {C : Ck} {m : Nat} (ok : Ok n C m) : (vic n C).2.2 = anyFree C n ∧ ((vic n C).2.2 = true → ∃ v : Nat, (vic n C).2.1 = (v : Int) ∧ v < n ∧ C.pins v = 0) ∧ (vic n C).1.pins = C.pins ∧ (vic n C).1.cold = C.cold := by
  rcases vic_cases ok with ⟨v, s, h', hv, hp, _, e, _⟩ | ⟨s, h', hp, _, e⟩
  · rw [e]
    exact ⟨((anyFree_iff C n).2 ⟨v, hv, hp⟩).symm, fun _ => ⟨v, rfl, hv, hp⟩, rfl, rfl⟩
  · rw [e]
    refine ⟨?_, (fun h => by cases h), rfl, rfl⟩
    cases h : anyFree C n with
    | false => rfl
    | true => obtain ⟨j, hj, hz⟩ := (anyFree_iff C n).1 h; exact absurd hz (hp j hj)
/-- .. the second: a cold one, as long as there is one. -/
theorem vic_cold {n : Nat} {C : Ck} {m : Nat} (ok : Ok n C m) (h : anyHit C n = true) : (vic n C).2.2 = true ∧ ∃ v : Nat, (vic n C).2.1 = (v : Int) ∧ v < n ∧ C.cold v = true := by
  obtain ⟨j, hj, hjt⟩ := (anyHit_iff C n).1 h
  rcases vic_cases ok with ⟨v, s, h', hv, hp, _, e, hc⟩ | ⟨s, h', hp, _, e⟩
  · rw [e]
    have := hc ⟨j, hj, hjt⟩
    refine ⟨rfl, v, rfl, hv, ?_⟩
    unfold hit at this; simp only [Bool.and_eq_true] at this; exact this.1
  · have : C.pins j = 0 := by unfold hit at hjt; simp only [Bool.and_eq_true] at hjt; simpa using hjt.2
    exact absurd this (hp j hj)
theorem ok_vic {n : Nat} {C : Ck} {m : Nat} (ok : Ok n C m) : Ok n (vic n C).1 m := by
  rcases vic_cases ok with ⟨v, s, h', _, _, hh, hv, _⟩ | ⟨s, h', _, hh, hv⟩
  · rw [hv]; exact ⟨hh, ok.lo, ok.hi⟩
  · rw [hv]; exact ⟨hh, ok.lo, ok.hi⟩
/-- How cold turns. -/
theorem stp_cold {n : Nat} {C : Ck} {m : Nat} (ok : Ok n C m) (kind i : Int) (is : Bool) :
    (stp n C kind i is).1.cold = if (0 ≤ i ∧ i < n) ∧ (kind = 3 ∨ kind = 4) then upd C.cold i.toNat (decide (kind = 3) && is) else C.cold := by
  unfold stp
  by_cases h5 : kind = 5
  · rw [if_pos h5, if_neg (by omega)]; exact (vic_pins ok).2.2.2
  rw [if_neg h5]
  by_cases hi : 0 ≤ i ∧ i < n
  · rw [if_pos hi]
    by_cases h0 : kind = 0
    · rw [if_pos h0, if_neg (by omega)]
    rw [if_neg h0]
    by_cases h1 : kind = 1
    · rw [if_pos h1, if_neg (by omega)]
    rw [if_neg h1]
    by_cases h2 : kind = 2
    · rw [if_pos h2]
      by_cases hz : C.pins i.toNat = 0
      · rw [if_pos hz, if_neg (by omega)]
      · rw [if_neg hz, if_neg (by omega)]
    rw [if_neg h2]
    by_cases h3 : kind = 3
    · rw [if_pos h3, if_pos ⟨hi, .inl h3⟩]; simp [h3]
    rw [if_neg h3]
    by_cases h4 : kind = 4
    · rw [if_pos h4, if_pos ⟨hi, .inr h4⟩]; simp [h4]
    rw [if_neg h4, if_neg (by omega)]
  · rw [if_neg hi, if_neg (by omega)]
end Go.Proofs.Ytbibfoahlieccaa.P

/- Pieces: runs of touched bytes, as a text; which bytes a delta touches. Plain lists. -/
import Derived.Test.YtlnfolikociodaaArr
namespace Go.Proofs.Ytlnfolikociodaa
open Go.RowKit

/-- Where a run that begins at e ends. -/
def stopF (t : Nat → Bool) : Nat → Nat → Nat
  | 0, e => e
  | n + 1, e => if t e then stopF t n (e + 1) else e
def stop (t : Nat → Bool) (e : Nat) : Nat := stopF t (64 - e) e
theorem stop_end (t : Nat → Bool) {e : Nat} (h : 64 ≤ e) : stop t e = e := by
  unfold stop; rw [show 64 - e = 0 by omega]; rfl
theorem stop_no {t : Nat → Bool} {e : Nat} (h : t e = false) : stop t e = e := by
  unfold stop
  cases 64 - e with
  | zero => rfl
  | succ n => simp [stopF, h]
theorem stop_yes {t : Nat → Bool} {e : Nat} (he : e < 64) (h : t e = true) : stop t e = stop t (e + 1) := by
  unfold stop
  rw [show 64 - e = (64 - (e + 1)) + 1 by omega]
  simp [stopF, h]
theorem stop_of {t : Nat → Bool} {e : Nat} (he : e ≤ 64) (hz : e < 64 → t e = false) : ∀ (n i : Nat), e - i = n → i ≤ e → (∀ j, i ≤ j → j < e → t j = true) → stop t i = e
  | 0, i, hn, hi, _ => by
    obtain rfl : i = e := by omega
    by_cases h : i < 64
    · exact stop_no (hz h)
    · exact stop_end t (by omega)
  | n + 1, i, hn, hi, ht => by
    rw [stop_yes (by omega) (ht i (by omega) (by omega))]
    exact stop_of he hz n (i + 1) (by omega) (by omega) fun j h1 h2 => ht j (by omega) h2
theorem stop_spec (t : Nat → Bool) : ∀ (n i : Nat), 64 - i = n → i ≤ 64 → i ≤ stop t i ∧ stop t i ≤ 64 ∧ (stop t i < 64 → t (stop t i) = false) ∧ ∀ j, i ≤ j → j < stop t i → t j = true
  | 0, i, hn, hi => by
    rw [stop_end t (by omega)]
    exact ⟨Nat.le_refl _, hi, fun h => by omega, fun j h1 h2 => by omega⟩
  | n + 1, i, hn, hi => by
    by_cases h : t i = true
    · rw [stop_yes (by omega) h]
      obtain ⟨h1, h2, h3, h4⟩ := stop_spec t n (i + 1) (by omega) (by omega)
      refine ⟨by omega, h2, h3, fun j hj hj' => ?_⟩
      by_cases e : j = i
      · rw [e]; exact h
      · exact h4 j (by omega) hj'
    · rw [stop_no (by simpa using h)]
      exact ⟨Nat.le_refl _, hi, fun _ => by simpa using h, fun j h1 h2 => by omega⟩
theorem stop_ge (t : Nat → Bool) {i : Nat} (h : i ≤ 64) : i ≤ stop t i := (stop_spec t _ i rfl h).1
theorem stop_le (t : Nat → Bool) {i : Nat} (h : i ≤ 64) : stop t i ≤ 64 := (stop_spec t _ i rfl h).2.1
theorem stop_gt {t : Nat → Bool} {i : Nat} (h : i < 64) (ht : t i = true) : i < stop t i := by
  rw [stop_yes h ht]
  exact stop_ge t (i := i + 1) (by omega)
theorem stop_congr {t u : Nat → Bool} (h : ∀ j, j < 64 → t j = u j) {i : Nat} (hi : i ≤ 64) : stop t i = stop u i := by
  obtain ⟨h1, h2, h3, h4⟩ := stop_spec u _ i rfl hi
  exact stop_of h2 (fun hz => by rw [h _ hz]; exact h3 hz) _ i rfl h1 fun j hj hj' => by rw [h j (by omega)]; exact h4 j hj hj'

/-- The bytes from i on, up to e. -/
def seg (b : Nat → BitVec 8) (i e : Nat) : List (BitVec 8) := (List.range (e - i)).map fun j => b (i + j)
theorem seg_length (b : Nat → BitVec 8) (i e : Nat) : (seg b i e).length = e - i := by simp [seg]
theorem seg_snoc (b : Nat → BitVec 8) {i e : Nat} (h : i ≤ e) : seg b i (e + 1) = seg b i e ++ [b e] := by
  unfold seg
  rw [show e + 1 - i = (e - i) + 1 by omega, List.range_succ, List.map_append]
  simp [show i + (e - i) = e by omega]
theorem seg_nil (b : Nat → BitVec 8) (i : Nat) : seg b i i = [] := by simp [seg]
theorem seg_get (b : Nat → BitVec 8) {i e j : Nat} (h : j < e - i) : (seg b i e)[j]? = some (b (i + j)) := by simp [seg, h]
theorem seg_congr {b c : Nat → BitVec 8} {i e : Nat} (h : ∀ j, i ≤ j → j < e → b j = c j) : seg b i e = seg c i e := by
  unfold seg
  refine List.map_congr_left fun j hj => ?_
  have : j < e - i := by simpa using hj
  exact h _ (by omega) (by omega)

/-- The pieces from i on. -/
def pcF (t : Nat → Bool) (b : Nat → BitVec 8) : Nat → Nat → List (BitVec 8)
  | 0, _ => []
  | n + 1, i => if t i then BitVec.ofNat 8 i :: BitVec.ofNat 8 (stop t i - i) :: (seg b i (stop t i) ++ pcF t b n (stop t i)) else pcF t b n (i + 1)
theorem pcF_more (t : Nat → Bool) (b : Nat → BitVec 8) : ∀ (n m i : Nat), 64 - i ≤ n → n ≤ m → i ≤ 64 → (∀ j, 64 ≤ j → t j = false) → pcF t b m i = pcF t b n i
  | 0, m, i, h, _, hi, ht => by
    obtain rfl : i = 64 := by omega
    have : ∀ m k, 64 ≤ k → pcF t b m k = [] := by
      intro m
      induction m with
      | zero => intro k _; rfl
      | succ m ih => intro k hk; simp only [pcF, ht k hk]; exact ih _ (by omega)
    rw [this m 64 (Nat.le_refl _)]; rfl
  | n + 1, 0, i, _, h, _, _ => by omega
  | n + 1, m + 1, i, h, hm, hi, ht => by
    simp only [pcF]
    by_cases hti : t i = true
    · have hi' : i < 64 := by
        rcases Nat.lt_or_ge i 64 with h | h
        · exact h
        · rw [ht i h] at hti; cases hti
      have h1 := stop_gt hi' hti
      have h2 := stop_le t (Nat.le_of_lt hi')
      simp only [hti, if_true]
      rw [pcF_more t b n m (stop t i) (by omega) (by omega) h2 ht]
    · simp only [hti, Bool.false_eq_true, if_false]
      by_cases e : i = 64
      · subst e
        have : ∀ m k, 64 ≤ k → pcF t b m k = [] := by
          intro m
          induction m with
          | zero => intro k _; rfl
          | succ m ih => intro k hk; simp only [pcF, ht k hk]; exact ih _ (by omega)
        rw [this _ _ (by omega), this _ _ (by omega)]
      · exact pcF_more t b n m (i + 1) (by omega) (by omega) (by omega) ht
/-- t, but for no byte behind the 64th. -/
def cut64 (t : Nat → Bool) : Nat → Bool := fun j => decide (j < 64) && t j
theorem cut64_lt {t : Nat → Bool} {j : Nat} (h : j < 64) : cut64 t j = t j := by simp [cut64, h]
theorem cut64_ge {t : Nat → Bool} {j : Nat} (h : 64 ≤ j) : cut64 t j = false := by simp [cut64]; omega
def pc (t : Nat → Bool) (b : Nat → BitVec 8) (i : Nat) : List (BitVec 8) := pcF (cut64 t) b (64 - i) i
theorem stop_cut (t : Nat → Bool) {i : Nat} (h : i ≤ 64) : stop (cut64 t) i = stop t i := stop_congr (fun _ hj => cut64_lt hj) h
theorem pc_end (t : Nat → Bool) (b : Nat → BitVec 8) {i : Nat} (h : 64 ≤ i) : pc t b i = [] := by
  unfold pc; rw [show 64 - i = 0 by omega]; rfl
theorem pc_no {t : Nat → Bool} {b : Nat → BitVec 8} {i : Nat} (h : t i = false) : pc t b i = pc t b (i + 1) := by
  by_cases hi : i < 64
  · unfold pc
    rw [show 64 - i = (64 - (i + 1)) + 1 by omega]
    simp only [pcF, cut64_lt hi, h, Bool.false_eq_true, if_false]
  · rw [pc_end t b (by omega), pc_end t b (by omega)]
theorem pc_yes {t : Nat → Bool} {b : Nat → BitVec 8} {i : Nat} (hi : i < 64) (h : t i = true) :
    pc t b i = BitVec.ofNat 8 i :: BitVec.ofNat 8 (stop t i - i) :: (seg b i (stop t i) ++ pc t b (stop t i)) := by
  have h1 := stop_gt hi h
  have h2 := stop_le t (Nat.le_of_lt hi)
  unfold pc
  rw [show 64 - i = (64 - (i + 1)) + 1 by omega]
  simp only [pcF, cut64_lt hi, h, if_true, stop_cut t (Nat.le_of_lt hi)]
  rw [pcF_more (cut64 t) b (64 - stop t i) (64 - (i + 1)) (stop t i) (by omega) (by omega) h2 fun j hj => cut64_ge hj]
theorem pc_congr {t u : Nat → Bool} {b c : Nat → BitVec 8} (h : ∀ j, j < 64 → t j = u j) (hb : ∀ j, j < 64 → t j = true → b j = c j) : ∀ (n i : Nat), 64 - i ≤ n → pc t b i = pc u c i
  | 0, i, hn => by rw [pc_end t b (by omega), pc_end u c (by omega)]
  | n + 1, i, hn => by
    by_cases hi : i < 64
    · by_cases ht : t i = true
      · have h1 := stop_gt hi ht
        obtain ⟨_, h2, _, h4⟩ := stop_spec t _ i rfl (Nat.le_of_lt hi)
        rw [pc_yes hi ht, pc_yes hi (by rw [← h i hi]; exact ht), ← stop_congr h (Nat.le_of_lt hi), pc_congr h hb n (stop t i) (by omega),
          seg_congr fun j hj hj' => hb j (by omega) (h4 j hj hj')]
      · have ht' : t i = false := by simpa using ht
        rw [pc_no ht', pc_no (t := u) (i := i) (by rw [← h i hi]; exact ht')]
        exact pc_congr h hb n (i + 1) (by omega)
    · rw [pc_end t b (by omega), pc_end u c (by omega)]
theorem pc_length (t : Nat → Bool) (b : Nat → BitVec 8) : ∀ (n i : Nat), 64 - i ≤ n → (pc t b i).length ≤ 3 * (64 - i)
  | 0, i, hn => by rw [pc_end t b (by omega)]; simp
  | n + 1, i, hn => by
    by_cases hi : i < 64
    · by_cases ht : t i = true
      · have h1 := stop_gt hi ht
        have h2 := stop_le t (Nat.le_of_lt hi)
        have := pc_length t b n (stop t i) (by omega)
        rw [pc_yes hi ht]
        simp only [List.length_cons, List.length_append, seg_length]
        omega
      · rw [pc_no (by simpa using ht)]
        have := pc_length t b n (i + 1) (by omega)
        omega
    · rw [pc_end t b (by omega)]; simp

/-- What is touched: what differs, and what stands within one or two that don't between two that do. -/
def tch (D : Nat → Bool) (j : Nat) : Bool := D j || (List.range 64).any fun a => (List.range 64).any fun k => decide (a + 2 ≤ k ∧ k ≤ a + 3 ∧ a ≤ j ∧ j < k) && (D a && D k)
def Tch (D : Nat → Bool) (j : Nat) : Prop := D j = true ∨ ∃ a k, k < 64 ∧ a + 2 ≤ k ∧ k ≤ a + 3 ∧ D a = true ∧ D k = true ∧ a ≤ j ∧ j < k
theorem tch_iff (D : Nat → Bool) (j : Nat) : tch D j = true ↔ Tch D j := by
  unfold tch Tch
  simp only [Bool.or_eq_true, List.any_eq_true, List.mem_range, Bool.and_eq_true, decide_eq_true_eq]
  constructor
  · rintro (h | ⟨a, ha, k, hk, ⟨h1, h2, h3, h4⟩, h5, h6⟩)
    · exact .inl h
    · exact .inr ⟨a, k, hk, h1, h2, h5, h6, h3, h4⟩
  · rintro (h | ⟨a, k, hk, h1, h2, h5, h6, h3, h4⟩)
    · exact .inl h
    · exact .inr ⟨a, by omega, k, hk, ⟨h1, h2, h3, h4⟩, h5, h6⟩
theorem tch_no {D : Nat → Bool} {j : Nat} (h : ¬ Tch D j) : tch D j = false := by
  cases e : tch D j
  · rfl
  · exact absurd ((tch_iff D j).1 e) h
/-- Where the delta's maker stands. -/
def Stand (D : Nat → Bool) (i : Nat) : Prop := i < 64 → D i = false → tch D i = false
theorem stand_zero (D : Nat → Bool) : Stand D 0 := fun _ h => tch_no (by
  rintro (h' | ⟨a, k, hk, h1, h2, h5, h6, h3, h4⟩)
  · rw [h] at h'; cases h'
  · obtain rfl : a = 0 := by omega
    rw [h] at h5; cases h5)
theorem stand_next {D : Nat → Bool} {i : Nat} (hi : i < 64) (h : Stand D i) (hd : D i = false) : Stand D (i + 1) := fun hi1 hd1 => tch_no (by
  rintro (h' | ⟨a, k, hk, h1, h2, h5, h6, h3, h4⟩)
  · rw [hd1] at h'; cases h'
  · have hn := h hi hd
    by_cases e : a ≤ i
    · have : tch D i = true := (tch_iff D i).2 (.inr ⟨a, k, hk, h1, h2, h5, h6, e, by omega⟩)
      rw [hn] at this; cases this
    · obtain rfl : a = i + 1 := by omega
      rw [hd1] at h5; cases h5)
/-- Where the search for a run's end stands. -/
structure Seek (D : Nat → Bool) (i e k : Nat) : Prop where
  ie : i < e
  e64 : e ≤ 64
  ek : e ≤ k
  k3 : k ≤ e + 3
  on : ∀ j, i ≤ j → j < e → tch D j = true
  last : D (e - 1) = true
  off : ∀ j, e ≤ j → j < k → j < 64 → D j = false
theorem seek_start {D : Nat → Bool} {i : Nat} (hi : i < 64) (h : D i = true) : Seek D i (i + 1) (i + 1) :=
  ⟨by omega, by omega, by omega, by omega, fun j h1 h2 => by
    obtain rfl : j = i := by omega
    exact (tch_iff D j).2 (.inl h), by simpa using h, fun j h1 h2 _ => by omega⟩
theorem seek_no {D : Nat → Bool} {i e k : Nat} (h : Seek D i e k) (hk : k < e + 3) (hd : D k = false) : Seek D i e (k + 1) :=
  ⟨h.ie, h.e64, by have := h.ek; omega, by omega, h.on, h.last, fun j h1 h2 h3 => by
    by_cases e : j = k
    · rw [e]; exact hd
    · exact h.off j h1 (by omega) h3⟩
theorem seek_yes {D : Nat → Bool} {i e k : Nat} (h : Seek D i e k) (hk : k < e + 3) (hk' : k < 64) (hd : D k = true) : Seek D i (k + 1) (k + 1) := by
  have h1 := h.ie
  have h2 := h.ek
  refine ⟨by omega, by omega, Nat.le_refl _, by omega, fun j hj hj' => ?_, by simpa using hd, fun j _ _ _ => by omega⟩
  by_cases a : j < e
  · exact h.on j hj a
  · by_cases b : j = k
    · rw [b]; exact (tch_iff D k).2 (.inl hd)
    · exact (tch_iff D j).2 (.inr ⟨e - 1, k, hk', by omega, by omega, h.last, hd, by omega, by omega⟩)
theorem seek_end {D : Nat → Bool} {i e k : Nat} (h : Seek D i e k) (hk : ¬ (k < 64 ∧ k < e + 3)) : stop (tch D) i = e ∧ Stand D e := by
  have h1 := h.ie
  have h2 := h.ek
  have h3 := h.k3
  have hz : e < 64 → tch D e = false := fun he => tch_no (by
    rintro (h' | ⟨a, b, hb, h1, h2, h5, h6, h3, h4⟩)
    · rw [h.off e (Nat.le_refl _) (by omega) he] at h'; cases h'
    · have ha : a < e := by
        rcases Nat.lt_or_ge a e with x | x
        · exact x
        · obtain rfl : a = e := by omega
          rw [h.off a (Nat.le_refl _) (by omega) he] at h5; cases h5
      rw [h.off b (by omega) (by omega) hb] at h6; cases h6)
  exact ⟨stop_of h.e64 hz _ i rfl (by omega) h.on, fun he _ => hz he⟩
end Go.Proofs.Ytlnfolikociodaa

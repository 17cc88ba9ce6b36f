/- What a text of pieces reads as. Plain lists. -/
import Derived.Test.YtlnfolikociodaaRd
namespace Go.Proofs.Ytlnfolikociodaa
open Go.RowKit
theorem next_piece {t : Nat → Bool} {b : Nat → BitVec 8} : ∀ (n p : Nat), 64 - p ≤ n → pc t b p ≠ [] → ∃ q, p ≤ q ∧ q < 64 ∧ t q = true ∧ (∀ j, p ≤ j → j < q → t j = false) ∧
    pc t b p = BitVec.ofNat 8 q :: BitVec.ofNat 8 (stop t q - q) :: (seg b q (stop t q) ++ pc t b (stop t q))
  | 0, p, hn, h => absurd (pc_end t b (by omega)) h
  | n + 1, p, hn, h => by
    by_cases hp : p < 64
    · by_cases ht : t p = true
      · exact ⟨p, Nat.le_refl _, hp, ht, fun j h1 h2 => by omega, pc_yes hp ht⟩
      · have ht' : t p = false := by simpa using ht
        rw [pc_no ht'] at h
        obtain ⟨q, h1, h2, h3, h4, h5⟩ := next_piece n (p + 1) (by omega) h
        refine ⟨q, by omega, h2, h3, fun j hj hj' => ?_, by rw [pc_no ht', h5]⟩
        by_cases e : j = p
        · rw [e]; exact ht'
        · exact h4 j (by omega) hj'
    · exact absurd (pc_end t b (by omega)) h
theorem no_piece {t : Nat → Bool} {b : Nat → BitVec 8} : ∀ (n p : Nat), 64 - p ≤ n → pc t b p = [] → ∀ j, p ≤ j → j < 64 → t j = false
  | 0, p, hn, h, j, h1, h2 => by omega
  | n + 1, p, hn, h, j, h1, h2 => by
    by_cases ht : t p = true
    · rw [pc_yes (by omega) ht] at h; cases h
    · have ht' : t p = false := by simpa using ht
      by_cases e : j = p
      · rw [e]; exact ht'
      · rw [pc_no ht'] at h
        exact no_piece n (p + 1) (by omega) h j (by omega) h2
theorem getD_seg {b : Nat → BitVec 8} {q e j : Nat} (h1 : q ≤ j) (h2 : j < e) : (seg b q e).getD (j - q) 0#8 = b j := by
  rw [List.getD_eq_getElem?_getD, seg_get b (by omega), show q + (j - q) = j by omega]; rfl
/-- What a text of pieces reads as. -/
theorem read_pc (t : Nat → Bool) (b : Nat → BitVec 8) : ∀ (n p nx : Nat), 64 - p ≤ n → (∀ j, p ≤ j → j < 64 → t j = true → nx ≤ j) →
    ∃ ps, read nx (pc t b p) = (ps, true) ∧ (∀ c j, j < 64 → puts c ps j = if p ≤ j ∧ t j = true then b j else c j) ∧ ∀ U j, j < 64 → marks U ps j = if p ≤ j ∧ t j = true then true else U j
  | n, p, nx, hn, hnx => by
    by_cases he : pc t b p = []
    · have hno := no_piece n p hn he
      refine ⟨[], by rw [he, read_nil], fun c j hj => ?_, fun U j hj => ?_⟩
      · rw [if_neg (fun h => by rw [hno j h.1 hj] at h; cases h.2)]; rfl
      · rw [if_neg (fun h => by rw [hno j h.1 hj] at h; cases h.2)]; rfl
    · obtain ⟨q, h1, h2, h3, h4, h5⟩ := next_piece n p hn he
      obtain ⟨_, s2, s3, s4⟩ := stop_spec t _ q rfl (Nat.le_of_lt h2)
      have s1 := stop_gt h2 h3
      generalize stop t q = e at *
      match n, hn with
      | 0, hn => omega
      | n + 1, hn =>
        obtain ⟨ps, r1, r2, r3⟩ := read_pc t b n e (e + 1) (by omega) (fun j hj hj' ht => by
          rcases Nat.lt_or_ge e j with h | h
          · omega
          · obtain rfl : j = e := by omega
            rw [s3 hj'] at ht; cases ht)
        have hq : (BitVec.ofNat 8 q).toNat = q := by simp; omega
        have hm : (BitVec.ofNat 8 (e - q)).toNat = e - q := by simp; omega
        have hsl : (seg b q e).length = e - q := seg_length b q e
        have hgood : ¬ Bad nx (BitVec.ofNat 8 q) (BitVec.ofNat 8 (e - q)) (seg b q e ++ pc t b e) := by
          unfold Bad
          rw [hq, hm, List.length_append, hsl]
          have := hnx q h1 h2 h3
          omega
        refine ⟨(q, seg b q e) :: ps, ?_, fun c j hj => ?_, fun U j hj => ?_⟩
        · rw [h5, read_good hgood, hq, hm, show q + (e - q) + 1 = e + 1 by omega, ← hsl, List.take_left, List.drop_left, r1]
        · show puts (put c (q, seg b q e)) ps j = _
          rw [r2 _ j hj]
          unfold put
          simp only [hsl]
          by_cases c1 : e ≤ j ∧ t j = true
          · rw [if_pos c1, if_pos ⟨by omega, c1.2⟩]
          · rw [if_neg c1]
            by_cases c2 : q ≤ j ∧ j < q + (e - q)
            · rw [if_pos c2, getD_seg c2.1 (by omega), if_pos ⟨by omega, s4 j c2.1 (by omega)⟩]
            · rw [if_neg c2, if_neg (fun h => ?_)]
              by_cases c3 : j < q
              · rw [h4 j h.1 c3] at h; cases h.2
              · exact c1 ⟨by omega, h.2⟩
        · show marks (mark U (q, seg b q e)) ps j = _
          rw [r3 _ j hj]
          unfold mark
          simp only [hsl]
          by_cases c1 : e ≤ j ∧ t j = true
          · rw [if_pos c1, if_pos ⟨by omega, c1.2⟩]
          · rw [if_neg c1]
            by_cases c2 : q ≤ j ∧ j < q + (e - q)
            · rw [if_pos c2, if_pos ⟨by omega, s4 j c2.1 (by omega)⟩]
            · rw [if_neg c2, if_neg (fun h => ?_)]
              by_cases c3 : j < q
              · rw [h4 j h.1 c3] at h; cases h.2
              · exact c1 ⟨by omega, h.2⟩
termination_by n => n
theorem read_pc0 (t : Nat → Bool) (b : Nat → BitVec 8) : ∃ ps, read 0 (pc t b 0) = (ps, true) ∧ (∀ c j, j < 64 → puts c ps j = if t j = true then b j else c j) ∧ ∀ U j, j < 64 → marks U ps j = if t j = true then true else U j := by
  obtain ⟨ps, h1, h2, h3⟩ := read_pc t b 64 0 0 (by omega) (fun _ _ _ _ => by omega)
  exact ⟨ps, h1, fun c j hj => by rw [h2 c j hj]; simp, fun U j hj => by rw [h3 U j hj]; simp⟩
end Go.Proofs.Ytlnfolikociodaa

/- A delta is the text of its own pieces. Plain lists. -/
import Derived.Test.YtlnfolikociodaaBack
namespace Go.Proofs.Ytlnfolikociodaa
open Go.RowKit
theorem pc_skip {t : Nat → Bool} {b : Nat → BitVec 8} : ∀ (n p q : Nat), q - p = n → p ≤ q → (∀ j, p ≤ j → j < q → t j = false) → pc t b p = pc t b q
  | 0, p, q, hn, h, _ => by rw [show p = q by omega]
  | n + 1, p, q, hn, h, ht => by
    rw [pc_no (ht p (Nat.le_refl _) (by omega))]
    exact pc_skip n (p + 1) q (by omega) (by omega) fun j h1 h2 => ht j (by omega) h2
theorem pc_none {t : Nat → Bool} {b : Nat → BitVec 8} {p : Nat} (h : ∀ j, p ≤ j → j < 64 → t j = false) : pc t b p = [] := by
  by_cases hp : p < 64
  · rw [pc_skip _ p 64 rfl (by omega) h, pc_end _ _ (Nat.le_refl _)]
  · exact pc_end _ _ (by omega)
theorem marks_cons (a : Nat) (s : List (BitVec 8)) (ps : List Piece) (j : Nat) : marks (fun _ => false) ((a, s) :: ps) j = (decide (a ≤ j ∧ j < a + s.length) || marks (fun _ => false) ps j) := by
  show marks (mark (fun _ => false) (a, s)) ps j = _
  rw [marks_or]
  unfold mark
  by_cases h : a ≤ j ∧ j < a + s.length
  · simp [h]
  · rw [if_neg h, decide_eq_false h]
theorem canon : ∀ (k : Nat) (l : List (BitVec 8)) (nx : Nat) (ps : List Piece), l.length ≤ k → read nx l = (ps, true) →
    (∀ j, j < nx → marks (fun _ => false) ps j = false) ∧ ∀ (p : Nat) (T : Nat → Bool) (b : Nat → BitVec 8), p ≤ nx → (∀ j, p ≤ j → j < 64 → T j = marks (fun _ => false) ps j) →
      (∀ j, p ≤ j → j < 64 → T j = true → b j = puts (fun _ => 0#8) ps j) → pc T b p = l
  | k, [], nx, ps, _, hr => by
    rw [read_nil] at hr
    obtain rfl : ps = [] := by simpa using hr.symm
    exact ⟨fun j _ => rfl, fun p T b _ hT _ => pc_none fun j h1 h2 => by rw [hT j h1 h2]; rfl⟩
  | k, [a], nx, ps, _, hr => by rw [read_one] at hr; simp at hr
  | 0, a :: n :: r, nx, ps, hk, hr => by simp at hk
  | k + 1, a :: n :: r, nx, ps, hk, hr => by
    by_cases hb : Bad nx a n r
    · rw [read_bad hb] at hr; simp at hr
    · rw [read_good hb] at hr
      have hv : (read (a.toNat + n.toNat + 1) (r.drop n.toNat)) = ((read (a.toNat + n.toNat + 1) (r.drop n.toNat)).1, true) := by
        have := congrArg Prod.snd hr
        simp only at this
        exact Prod.ext rfl this
      have hps : ps = (a.toNat, r.take n.toNat) :: (read (a.toNat + n.toNat + 1) (r.drop n.toNat)).1 := (congrArg Prod.fst hr).symm
      generalize (read (a.toNat + n.toNat + 1) (r.drop n.toNat)).1 = qs at *
      subst hps
      obtain ⟨i1, i2⟩ := canon k (r.drop n.toNat) (a.toNat + n.toNat + 1) qs (by simp at hk ⊢; omega) hv
      unfold Bad at hb
      have hlen : (r.take n.toNat).length = n.toNat := by rw [List.length_take]; omega
      refine ⟨fun j hj => ?_, fun p T b hp hT hbj => ?_⟩
      · rw [marks_cons, hlen, i1 j (by omega), decide_eq_false (by omega)]; rfl
      · have hT' : ∀ j, p ≤ j → j < 64 → T j = (decide (a.toNat ≤ j ∧ j < a.toNat + n.toNat) || marks (fun _ => false) qs j) := fun j h1 h2 => by
          rw [hT j h1 h2, marks_cons, hlen]
        have ha : a.toNat < 64 := by omega
        rw [pc_skip _ p a.toNat rfl (by omega) fun j h1 h2 => by
          rw [hT' j h1 (by omega), i1 j (by omega), decide_eq_false (by omega)]; rfl]
        have hstop : stop T a.toNat = a.toNat + n.toNat := stop_of (by omega) (fun hz => by
          rw [hT' _ (by omega) hz, i1 _ (by omega), decide_eq_false (by omega)]; rfl) _ a.toNat rfl (by omega) fun j h1 h2 => by
          rw [hT' j (by omega) (by omega), decide_eq_true ⟨h1, h2⟩]; rfl
        have hTa : T a.toNat = true := by rw [hT' _ (by omega) ha, decide_eq_true ⟨Nat.le_refl _, by omega⟩]; rfl
        rw [pc_yes ha hTa, hstop, i2 (a.toNat + n.toNat) T b (by omega) (fun j h1 h2 => by
            rw [hT' j (by omega) h2, decide_eq_false (by omega)]; rfl) (fun j h1 h2 h3 => by
            rw [hbj j (by omega) h2 h3]
            show puts (put (fun _ => 0#8) (a.toNat, r.take n.toNat)) qs j = _
            rw [puts_eq j qs _ (fun _ => 0#8), if_pos]
            have := hT' j (by omega) h2
            rw [h3, decide_eq_false (by omega)] at this
            simpa using this.symm)]
        have hseg : seg b a.toNat (a.toNat + n.toNat) = r.take n.toNat := by
          apply List.ext_getElem?
          intro j
          by_cases hj : j < n.toNat
          · have hv : b (a.toNat + j) = (r.take n.toNat).getD j 0#8 := by
              rw [hbj (a.toNat + j) (by omega) (by omega) (by rw [hT' _ (by omega) (by omega), decide_eq_true ⟨by omega, by omega⟩]; rfl)]
              show puts (put (fun _ => 0#8) (a.toNat, r.take n.toNat)) qs (a.toNat + j) = _
              rw [puts_eq _ qs _ (fun _ => 0#8), if_neg (by rw [i1 _ (by omega)]; simp)]
              unfold put
              simp only [hlen]
              rw [if_pos ⟨by omega, by omega⟩, show a.toNat + j - a.toNat = j by omega]
            rw [seg_get b (by omega), hv, List.getD_eq_getElem?_getD, List.getElem?_eq_getElem (by rw [hlen]; exact hj)]
            rfl
          · rw [List.getElem?_eq_none (by rw [seg_length]; omega), List.getElem?_eq_none (by rw [hlen]; omega)]
        rw [hseg, show a.toNat + n.toNat - a.toNat = n.toNat by omega, List.take_append_drop]
        simp
end Go.Proofs.Ytlnfolikociodaa

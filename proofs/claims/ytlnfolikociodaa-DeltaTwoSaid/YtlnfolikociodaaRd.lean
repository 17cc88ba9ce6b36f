/- Reading a delta: its pieces, and whether it is one. Plain lists. -/
import Derived.Test.YtlnfolikociodaaPc
namespace Go.Proofs.Ytlnfolikociodaa
open Go.RowKit

/-- A text of these bytes. -/
def str' (l : List (BitVec 8)) : ByteArray := ⟨(l.map UInt8.ofBitVec).toArray⟩
abbrev Piece := Nat × List (BitVec 8)
/-- The pieces that are read, the next one not ahead of nx; and whether nothing is wrong. -/
def rd : Nat → Nat → List (BitVec 8) → List Piece × Bool
  | 0, _, _ => ([], true)
  | _ + 1, _, [] => ([], true)
  | _ + 1, _, [_] => ([], false)
  | k + 1, nx, a :: n :: r => if n.toNat < 1 ∨ a.toNat < nx ∨ 64 < a.toNat + n.toNat ∨ r.length < n.toNat then ([], false)
      else ((a.toNat, r.take n.toNat) :: (rd k (a.toNat + n.toNat + 1) (r.drop n.toNat)).1, (rd k (a.toNat + n.toNat + 1) (r.drop n.toNat)).2)
theorem rd_more : ∀ (k m nx : Nat) (l : List (BitVec 8)), l.length ≤ k → k ≤ m → rd m nx l = rd k nx l
  | 0, m, nx, l, h, _ => by
    obtain rfl : l = [] := List.eq_nil_of_length_eq_zero (by omega)
    cases m <;> rfl
  | k + 1, 0, nx, l, h, hm => by omega
  | k + 1, m + 1, nx, [], h, hm => rfl
  | k + 1, m + 1, nx, [_], h, hm => rfl
  | k + 1, m + 1, nx, a :: n :: r, h, hm => by
    simp only [rd]
    have hl : (r.drop n.toNat).length ≤ k := by simp at h ⊢; omega
    rw [rd_more k m _ _ hl (by omega)]
def read (nx : Nat) (l : List (BitVec 8)) : List Piece × Bool := rd l.length nx l
theorem read_nil (nx : Nat) : read nx [] = ([], true) := rfl
theorem read_one (nx : Nat) (a : BitVec 8) : read nx [a] = ([], false) := rfl
def Bad (nx : Nat) (a n : BitVec 8) (r : List (BitVec 8)) : Prop := n.toNat < 1 ∨ a.toNat < nx ∨ 64 < a.toNat + n.toNat ∨ r.length < n.toNat
theorem read_bad {nx : Nat} {a n : BitVec 8} {r : List (BitVec 8)} (h : Bad nx a n r) : read nx (a :: n :: r) = ([], false) := by
  unfold read Bad at *
  simp only [List.length_cons, rd]
  rw [if_pos h]
theorem read_good {nx : Nat} {a n : BitVec 8} {r : List (BitVec 8)} (h : ¬ Bad nx a n r) :
    read nx (a :: n :: r) = ((a.toNat, r.take n.toNat) :: (read (a.toNat + n.toNat + 1) (r.drop n.toNat)).1, (read (a.toNat + n.toNat + 1) (r.drop n.toNat)).2) := by
  unfold read Bad at *
  simp only [List.length_cons, rd]
  rw [if_neg h, rd_more (r.drop n.toNat).length (r.length + 1) _ _ (Nat.le_refl _) (by simp; omega)]
/-- A piece laid into bytes. -/
def put (b : Nat → BitVec 8) (p : Piece) : Nat → BitVec 8 := fun j => if p.1 ≤ j ∧ j < p.1 + p.2.length then p.2.getD (j - p.1) 0#8 else b j
/-- Its bytes marked. -/
def mark (T : Nat → Bool) (p : Piece) : Nat → Bool := fun j => if p.1 ≤ j ∧ j < p.1 + p.2.length then true else T j
def puts (b : Nat → BitVec 8) (ps : List Piece) : Nat → BitVec 8 := ps.foldl put b
def marks (T : Nat → Bool) (ps : List Piece) : Nat → Bool := ps.foldl mark T
theorem puts_snoc (b : Nat → BitVec 8) (ps : List Piece) (p : Piece) : puts b (ps ++ [p]) = put (puts b ps) p := by simp [puts]
theorem marks_snoc (T : Nat → Bool) (ps : List Piece) (p : Piece) : marks T (ps ++ [p]) = mark (marks T ps) p := by simp [marks]
theorem puts_append (b : Nat → BitVec 8) (ps qs : List Piece) : puts b (ps ++ qs) = puts (puts b ps) qs := by simp [puts]
theorem marks_append (T : Nat → Bool) (ps qs : List Piece) : marks T (ps ++ qs) = marks (marks T ps) qs := by simp [marks]
theorem marks_or (j : Nat) : ∀ (ps : List Piece) (T : Nat → Bool), marks T ps j = (T j || marks (fun _ => false) ps j)
  | [], T => by simp [marks]
  | p :: ps, T => by
    have h1 := marks_or j ps (mark T p)
    have h2 := marks_or j ps (mark (fun _ => false) p)
    show marks (mark T p) ps j = (T j || marks (mark (fun _ => false) p) ps j)
    rw [h1, h2]
    unfold mark
    by_cases h : p.1 ≤ j ∧ j < p.1 + p.2.length
    · simp [h]
    · simp [h]
/-- Whatever stands below: what is laid shows where it is marked. -/
theorem puts_eq (j : Nat) : ∀ (ps : List Piece) (b c : Nat → BitVec 8), puts b ps j = if marks (fun _ => false) ps j = true then puts c ps j else b j
  | [], b, c => by simp [puts, marks]
  | p :: ps, b, c => by
    have h1 := puts_eq j ps (put b p) (put c p)
    have h3 := puts_eq j ps (put c p) (put c p)
    have h2 := marks_or j ps (mark (fun _ => false) p)
    show puts (put b p) ps j = if marks (mark (fun _ => false) p) ps j = true then puts (put c p) ps j else b j
    rw [h1, h2]
    by_cases hm : marks (fun _ => false) ps j = true
    · simp [hm]
    · have hm' : marks (fun _ => false) ps j = false := by simpa using hm
      rw [hm'] at h3 ⊢
      rw [if_neg (by simp)] at h3
      rw [if_neg (by simp), h3]
      unfold mark put
      by_cases h : p.1 ≤ j ∧ j < p.1 + p.2.length
      · simp [h]
      · simp [h]
/-! ### A text's bytes -/
theorem str_inv (d : ByteArray) : ∃ l : List (BitVec 8), d = str' l := ⟨d.data.toList.map UInt8.toBitVec, by
  apply ByteArray.ext
  simp [str', Function.comp_def]⟩
end Go.Proofs.Ytlnfolikociodaa

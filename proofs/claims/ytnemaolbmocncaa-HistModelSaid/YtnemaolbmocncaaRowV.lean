/- Rows of values by index; over any program. -/
import Derived.Test.YtnemaolbmocncaaFr
namespace Go.Proofs.Ytnemaolbmocncaa
open Go.RowKit
def rowV (n : Nat) (f : Nat → Value) : Array Value := ((List.range n).map f).toArray
theorem rowV_size (n : Nat) (f : Nat → Value) : (rowV n f).size = n := by simp [rowV]
theorem rowV_get {n : Nat} {f : Nat → Value} {j : Nat} (h : j < n) : (rowV n f)[j]? = some (f j) := by unfold rowV; rw [List.getElem?_toArray]; simp [h]
theorem rowV_congr {n : Nat} {f g : Nat → Value} (h : ∀ j, j < n → f j = g j) : rowV n f = rowV n g := by
  unfold rowV
  congr 1
  exact List.map_congr_left fun j hj => h j (by simpa using hj)
theorem rowV_set {n : Nat} {f : Nat → Value} {i : Nat} (v : Value) : (rowV n f).setIfInBounds i v = rowV n (fun j => if j = i then v else f j) := by
  apply Array.ext_getElem?
  intro j
  rw [Array.getElem?_setIfInBounds]
  by_cases hj : j < n
  · by_cases e : i = j
    · subst e; rw [if_pos rfl, if_pos (by rw [rowV_size]; exact hj), rowV_get hj]; simp
    · rw [if_neg e, rowV_get hj, rowV_get hj]; simp [Ne.symm e]
  · rw [Array.getElem?_eq_none (xs := rowV n fun j => if j = i then v else f j) (by rw [rowV_size]; omega)]
    split
    · rw [if_neg (by rw [rowV_size]; omega)]
    · rw [Array.getElem?_eq_none (by rw [rowV_size]; omega)]
theorem rowV_made (n : Nat) (z : Value) : madeCells #[z] n = rowV n fun _ => z := by
  apply Array.ext_getElem?
  intro j
  by_cases hj : j < n
  · rw [rowV_get hj]; simp [madeCells, hj, Nat.mod_one]
  · rw [Array.getElem?_eq_none (xs := rowV n fun _ => z) (by rw [rowV_size]; omega), Array.getElem?_eq_none (by simp [madeCells]; omega)]
theorem Blk.val {w : World} {b n : Nat} {f : Nat → Value} {t : TypeId} (h : Blk w b (rowV n f) t) {j : Nat} (hj : j < n) : w.cell? ⟨b, j, none⟩ = some (f j) := by
  rw [h.cell, rowV_get hj]
end Go.Proofs.Ytnemaolbmocncaa

/- Some cells in the midst of a block that is known whole are written. Over any program. -/
import Derived.Test.YtnemaolbmocncaaPl
import Derived.Test.YtnemaolbmocncaaFr
import Derived.Deep.MidRow
namespace Go.Proofs.Ytnemaolbmocncaa
open Go.RowKit
def spl : Array Value → Nat → List Value → Array Value
  | cs, _, [] => cs
  | cs, o, v :: r => spl (cs.setIfInBounds o v) (o + 1) r
theorem spl_size : ∀ (vs : List Value) (cs : Array Value) (o : Nat), (spl cs o vs).size = cs.size
  | [], _, _ => rfl
  | v :: r, cs, o => by unfold spl; rw [spl_size r]; simp
theorem spl_get : ∀ (vs : List Value) (cs : Array Value) (o j : Nat), o + vs.length ≤ cs.size → (spl cs o vs)[j]? = if o ≤ j ∧ j < o + vs.length then vs[j - o]? else cs[j]?
  | [], cs, o, j, _ => by unfold spl; rw [if_neg (by simp)]
  | v :: r, cs, o, j, h => by
    simp only [List.length_cons] at h ⊢
    unfold spl
    rw [spl_get r _ _ _ (by simp; omega)]
    by_cases hj : j = o
    · subst hj
      rw [if_neg (by omega), if_pos (by omega), Nat.sub_self, Array.getElem?_setIfInBounds_self_of_lt (by omega)]
      rfl
    · by_cases h1 : o + 1 ≤ j ∧ j < o + 1 + r.length
      · rw [if_pos h1, if_pos (by omega), show j - o = (j - (o + 1)) + 1 by omega, List.getElem?_cons_succ]
      · rw [if_neg h1, if_neg (by omega), Array.getElem?_setIfInBounds_ne (by omega)]
theorem setCells_blk : ∀ (vs : List Value) (w : World) (b o : Nat) (cs : Array Value) (t : TypeId), Blk w b cs t → o + vs.length ≤ cs.size → Blk (w.setCells b o vs) b (spl cs o vs) t ∧ Fr (fun i => i = b) w (w.setCells b o vs)
  | [], w, b, o, cs, t, h, _ => ⟨h, Fr.refl _ _⟩
  | v :: r, w, b, o, cs, t, h, hl => by
    simp only [List.length_cons] at hl
    have h1 : Blk (w.setCell ⟨b, o, none⟩ v) b (cs.setIfInBounds o v) t := by rw [h.setCell]; exact h.setRow _
    have f1 : Fr (fun i => i = b) w (w.setCell ⟨b, o, none⟩ v) := (Fr.refl _ _).setCell _ _ fun _ => rfl
    obtain ⟨h2, f2⟩ := setCells_blk r _ b (o + 1) _ t h1 (by simp; omega)
    exact ⟨h2, f1.trans f2 fun i _ e => e⟩
theorem Blk.there {w : World} {b : Nat} {cs : Array Value} {t : TypeId} (h : Blk w b cs t) {o n : Nat} (hn : o + n ≤ cs.size) : w.there b o n := fun j hj => by
  refine ⟨?_, h.free _⟩
  rw [h.cell, Array.getElem?_eq_getElem (by omega)]
  rfl
end Go.Proofs.Ytnemaolbmocncaa

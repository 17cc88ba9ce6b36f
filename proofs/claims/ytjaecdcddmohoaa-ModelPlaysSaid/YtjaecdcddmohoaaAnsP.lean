/- The walk of the document's answer. -/
import Derived.Test.YtjaecdcddmohoaaRAtW
namespace Go.Proofs.Ytjaecdcddmohoaa
open Go.RowKit
set_option linter.unusedSimpArgs false
set_option linter.unusedVariables false
/-- The answer, at work. -/
structure AnS (w wr : World) (c : P.Cl) : Prop where
  below : Below w.heap.size w wr
  box : Blk wr w.heap.size (clA c) 35
  res : Blk wr (w.heap.size + 1) (rpA ⟨0, 0, 0, P.zb⟩) 40
section
variable {w wr w' : World} {c : P.Cl}
theorem AnS.fr (h : AnS w wr c) {S : Nat → Prop} (k : Fr S wr w') (hS : ∀ i, S i → w.heap.size + 1 < i) : AnS w w' c :=
  ⟨Fr.below h.below k (Nat.le_refl _) fun i hi => by have := hS i hi; omega, h.box.fr k (fun hs => by have := hS _ hs; omega), h.res.fr k (fun hs => by have := hS _ hs; omega)⟩
theorem AnS.go (h : AnS w wr c) (k : Below wr.heap.size wr w') : AnS w w' c := h.fr (Fr.of_below k fun _ => False) fun _ h => h.elim
theorem AnS.b0 (h : AnS w wr c) : wr.cell? ⟨w.heap.size, 0, none⟩ = some (.int .u8 c.kind) := by rw [h.box.cell]; rfl
theorem AnS.b1 (h : AnS w wr c) : wr.cell? ⟨w.heap.size, 1, none⟩ = some (.int .u64 c.txn) := by rw [h.box.cell]; rfl
theorem AnS.b2 (h : AnS w wr c) : wr.cell? ⟨w.heap.size, 2, none⟩ = some (.int .u16 c.page) := by rw [h.box.cell]; rfl
theorem AnS.b3 (h : AnS w wr c) : wr.cell? ⟨w.heap.size, 3, none⟩ = some (.int .i64 c.off) := by rw [h.box.cell]; rfl
theorem AnS.b4 (h : AnS w wr c) : wr.cell? ⟨w.heap.size, 4, none⟩ = some (.string c.s) := by rw [h.box.cell]; rfl
end
def BadQ (bb : Bool) (M : P.Md) (c : P.Cl) : Prop := bb = true ↔ (7 < c.kind ∨ P.bad M c)
def badR (M : P.Md) (c : P.Cl) : Prop := 7 < c.kind ∨ P.bad M c
theorem row_box {w : World} (f g : P.Bd) : Blk ((w.alloc (.cells (row 64 f) 38)).setRow w.heap.size (row 64 g)) w.heap.size (row 64 g) 38 ∧ Below w.heap.size w ((w.alloc (.cells (row 64 f) 38)).setRow w.heap.size (row 64 g)) :=
  ⟨(Blk.alloc_new _ _ _).setRow _, Fr.below ((Below.refl _ _).alloc (Nat.le_refl _) _) ((Fr.refl (fun b => b = w.heap.size) _).setRow _ _ fun _ => rfl) (Nat.le_refl _) fun i e => by omega⟩
theorem ver_box {w : World} (v u : P.Vr) : Blk ((w.alloc (.cells (verA v) 44)).setRow w.heap.size (verA u)) w.heap.size (verA u) 44 ∧ Below w.heap.size w ((w.alloc (.cells (verA v) 44)).setRow w.heap.size (verA u)) :=
  ⟨(Blk.alloc_new _ _ _).setRow _, Fr.below ((Below.refl _ _).alloc (Nat.le_refl _) _) ((Fr.refl (fun b => b = w.heap.size) _).setRow _ _ fun _ => rfl) (Nat.le_refl _) fun i e => by omega⟩
theorem no_succ {f : Nat → Bool} {R : Nat → Prop} {k : Nat} (hno : ∀ q, q < k → f q = true → R q) (hk : f k = true → R k) : ∀ q, q < k + 1 → f q = true → R q := fun q hq e => by
  by_cases h : q = k
  · subst h; exact hk e
  · exact hno q (by omega) e
theorem shut_step' {M : P.Md} (h : M.shut = true) (c : P.Cl) : P.step M c = (M, P.err 12) := by unfold P.step; rw [if_pos h]
section
variable {M : P.Md} {c : P.Cl} (hs : M.shut = false) (hc : ClOk c)
include hs
theorem step_bad (hb : badR M c) : P.step M c = (M, P.err 1) := by
  unfold P.step
  rw [if_neg (by rw [hs]; simp)]
  rcases hb with hb | hb
  · rw [if_neg (by omega), if_neg (by omega), if_neg (by omega), if_neg (by omega)]
  · have hk : c.kind = 1 ∨ c.kind = 2 := by
      rcases hb with ⟨h, _⟩ | ⟨h, _⟩
      · exact h
      · exact .inr h
    rw [if_neg (by omega), if_pos (by omega)]
    unfold P.of
    rw [if_pos hb]
theorem step_567 (hk : c.kind = 5 ∨ c.kind = 6 ∨ c.kind = 7) : (P.step M c).2 = P.ok 0 P.zb := by
  unfold P.step
  rw [if_neg (by rw [hs]; simp), if_neg (by omega), if_neg (by omega)]
  by_cases h : c.kind = 5 ∨ c.kind = 6
  · rw [if_pos h]
  · rw [if_neg h, if_pos (by omega)]
theorem step_of (hk : c.kind = 1 ∨ c.kind = 2 ∨ c.kind = 3 ∨ c.kind = 4) : P.step M c = P.of M c := by
  unfold P.step
  rw [if_neg (by rw [hs]; simp), if_neg (by omega), if_pos hk]
end
end Go.Proofs.Ytjaecdcddmohoaa

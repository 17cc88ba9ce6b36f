/- The walk of turn's awake. -/
import Derived.Test.YtphppojckbnaoaaTurnW
namespace Go.Proofs.Ytphppojckbnaoaa
open Go.RowKit
set_option linter.unusedSimpArgs false
set_option linter.unusedVariables false
theorem Stp.below {B t : Nat} {v v' : Value} {w0 w w' : World} {L : List Int} (h : Stp t v v' w w') (hT : TS B w t v L) (hb : Below B w0 w) (hB : B ≤ w0.heap.size) : Below B w0 w' :=
  Fr.below hb h.fr hB fun b hb => (hT.lt b hb).1
theorem new_below (w : World) : Below w.heap.size w (w.alloc (.cells #[.slice none 0 0] 40)) := (Below.refl _ _).alloc (Nat.le_refl _) _
set_option maxRecDepth 100000 in
set_option maxHeartbeats 1000000 in
theorem awake_any (w : World) : Calls Try.prog 17 #[] w fun e w' => e = .returned (.bool true) ∧ Below w.heap.size w w' := by
  have T0 := new_TS w.heap.size w (Nat.le_refl _)
  have L0 := new_below w
  go_enter Try.func17, Try.ntmps17
  go_wp2_with fail
  refine (new_any _).mono ?_
  rintro e w1 ⟨rfl, rfl⟩
  generalize w.alloc (.cells #[.slice none 0 0] 40) = w1 at *
  have hB := Nat.le_refl w.heap.size
  go_wp2_with fail
  refine (ask_any T0 (by decide) 4).mono ?_
  rintro e w2 ⟨rfl, v2, T2, S2⟩
  rw [show P.has (P.ask [] 4) 4 = true from by decide]
  go_wp2_with fail
  refine (ask_any T2 (by decide) 5).mono ?_
  rintro e w3 ⟨rfl, v3, T3, S3⟩
  rw [show P.has (P.ask (P.ask [] 4) 5) 5 = false from by decide]
  go_wp2_with fail
  refine (leave_any T3 (by decide) 4).mono ?_
  rintro e w4 ⟨rfl, v4, T4, S4⟩
  rw [show decide (4 ∈ P.ask (P.ask [] 4) 5) = true from by decide]
  go_wp2_with fail
  refine (has_any T4 (by decide) 5).mono ?_
  rintro e w5 ⟨rfl, rfl⟩
  rw [show P.has ((P.ask (P.ask [] 4) 5).erase 4) 5 = true from by decide]
  go_wp2_with fail
  go_ret
  exact ⟨rfl, S4.below T3 (S3.below T2 (S2.below T0 L0 hB) hB) hB⟩
end Go.Proofs.Ytphppojckbnaoaa

/- Arguments of turn's laws: a slice of pairs of numbers, a slice of numbers. -/
import Derived.Test.YtphppojckbnaoaaPlaysW
import Derived.Deep.SlicePairs
import Derived.WideShapes
import Derived.ChangeSlices
import Derived.ChangeArms
namespace Go.Proofs.Ytphppojckbnaoaa
open Go.RowKit Go.WideShapes Go.Deep Go.ChangeShapes
theorem cells28 : Try.prog.cellsOf 28 = 2 := by kernel_rfl
theorem cells3 : Try.prog.cellsOf 3 = 1 := by kernel_rfl
theorem open_ops {H : Type} {enc : TypeId × Value → H} {w : World} {r : Reach} {b0 : Nat} {v : Value} {d : DataW H} {p : List MemPlace}
    (hv : Value.okWide Try.prog w r b0 22 v) (h : DataW.Trod enc Try.prog w 0 (fun _ => true) true 22 v d p) :
    ∃ ao n cap K X, v = .slice ao n cap ∧ OpsAt w ao n K X ∧ n ≤ maxLen := by
  obtain ⟨ao, n, cap, rfl⟩ := okWide_slice Try.underlying22 hv
  obtain ⟨fuel, hf⟩ := h
  rcases open_slice_pairs Try.underlying22 Try.underlying28 cells28 rfl rfl cells3 cells3 hf with ⟨hc, hx⟩ | ⟨a, len, cap', m, k, V0, V1, D0, D1, P0, P1, hc, _, hl, hm, hmm, hx, hall⟩
  · have hc' : Value.slice ao n cap = .slice none 0 0 := by simpa [Value.cells] using hc
    injection hc' with h1 h2 h3
    subst h1; subst h2; subst h3
    exact ⟨none, 0, 0, fun _ => 0, fun _ => 0, rfl, ⟨fun i hi => by omega⟩, by unfold maxLen; omega⟩
  · have hc' : Value.slice ao n cap = .slice (some a) len cap' := by simpa [Value.cells] using hc
    injection hc' with h1 h2 h3
    subst h1; subst h2; subst h3
    simp only [if_true] at hmm
    subst hmm
    have hnum : ∀ i, i < n → (∃ x, V0 i = .int .i64 x) ∧ ∃ x, V1 i = .int .i64 x := fun i hi => by
      obtain ⟨_, _, h0, h1⟩ := hall i (by omega)
      obtain ⟨x, hx, _⟩ := DataW.trod_int Try.underlying3 h0
      obtain ⟨y, hy, _⟩ := DataW.trod_int Try.underlying3 h1
      exact ⟨⟨x, by simpa using hx⟩, ⟨y, by simpa using hy⟩⟩
    refine ⟨some a, n, _, fun i => if h : i < n then Classical.choose (hnum i h).1 else 0, fun i => if h : i < n then Classical.choose (hnum i h).2 else 0, rfl, ⟨fun i hi => ?_⟩, by omega⟩
    obtain ⟨c0, c1, _, _⟩ := hall i (by omega)
    rw [Classical.choose_spec (hnum i hi).1] at c0
    rw [Classical.choose_spec (hnum i hi).2] at c1
    obtain ⟨sb, so, spot⟩ := a
    have hspot : spot = none := by simpa [Addr.add] using World.cell?_spot (hall 0 (by omega)).1
    subst hspot
    rw [Addr.add_lit] at c0 c1
    simp only [dif_pos hi]
    exact ⟨sb, so, rfl, World.block_lt_of_cell? w _ c0, c0, by rw [Nat.add_assoc]; exact c1⟩
/-- A slice of numbers that came in. -/
structure NumsAt (w : World) (ao : Option Addr) (n : Nat) (X : Nat → Int) : Prop where
  at_ : ∀ i, i < n → ∃ b o, ao = some ⟨b, o, none⟩ ∧ b < w.heap.size ∧ w.cell? ⟨b, o + i, none⟩ = some (.int .i64 (X i))
theorem open_nums {H : Type} {enc : TypeId × Value → H} {w : World} {r : Reach} {b0 : Nat} {v : Value} {d : DataW H} {p : List MemPlace}
    (hv : Value.okWide Try.prog w r b0 30 v) (h : DataW.Trod enc Try.prog w 0 (fun _ => true) true 30 v d p) :
    ∃ ao n cap X, v = .slice ao n cap ∧ NumsAt w ao n X ∧ n ≤ maxLen := by
  obtain ⟨ao, n, cap, rfl⟩ := okWide_slice Try.underlying30 hv
  obtain ⟨fuel, hf⟩ := h
  rcases open_ints Try.underlying30 Try.underlying3 cells3 hf with ⟨hc, hx⟩ | ⟨a, len, cap', zs, hc, _, hl, hm, hz, hx, hall, _⟩
  · have hc' : Value.slice ao n cap = .slice none 0 0 := by simpa [Value.cells] using hc
    injection hc' with h1 h2 h3
    subst h1; subst h2; subst h3
    exact ⟨none, 0, 0, fun _ => 0, rfl, ⟨fun i hi => by omega⟩, by unfold maxLen; omega⟩
  · have hc' : Value.slice ao n cap = .slice (some a) len cap' := by simpa [Value.cells] using hc
    injection hc' with h1 h2 h3
    subst h1; subst h2; subst h3
    simp only [if_true] at hz
    refine ⟨some a, n, _, fun i => zs.getD i 0, rfl, ⟨fun i hi => ?_⟩, by omega⟩
    have c0 := hall i (by omega)
    obtain ⟨sb, so, spot⟩ := a
    have hspot : spot = none := by simpa [Addr.add] using World.cell?_spot (hall 0 (by omega))
    subst hspot
    rw [Addr.add_lit] at c0
    exact ⟨sb, so, rfl, World.block_lt_of_cell? w _ c0, c0⟩
end Go.Proofs.Ytphppojckbnaoaa

/- Arguments of clock's laws: a slice of triples; a triple; a byte. -/
import Derived.Test.YtbibfoahlieccaaDoW
import Derived.Deep.Slices
import Derived.Deep.Strs
import Derived.WideShapes
import Derived.ChangeArms
namespace Go.Proofs.Ytbibfoahlieccaa
open Go.RowKit Go.WideShapes Go.Deep Go.ChangeShapes
theorem cells29 : Try.prog.cellsOf 29 = 3 := by kernel_rfl
theorem cells3 : Try.prog.cellsOf 3 = 1 := by kernel_rfl
theorem cells4 : Try.prog.cellsOf 4 = 1 := by kernel_rfl
theorem op_cells {H : Type} {enc : TypeId × Value → H} {w : World} {fuel : Nat} {cs : List Value} {x : DataW H × List MemPlace} (h : DataW.trod enc Try.prog w 0 (fun _ => true) true fuel 29 cs = some x) :
    ∃ (k i : Int) (b : Bool), cs = [.int .i64 k, .int .i64 i, .bool b] := by
  obtain ⟨y0, y1, y2, n, _, hl, h0, h1, h2⟩ := trod_struct3 Try.underlying29 h
  rw [cells29] at hl
  match cs, hl with
  | [v0, v1, v2], _ =>
    simp [cells3, cells4] at h0 h1 h2
    obtain ⟨k, hk, _⟩ := DataW.trod_int Try.underlying3 h0
    obtain ⟨i, hi, _⟩ := DataW.trod_int Try.underlying3 h1
    obtain ⟨b, hb, _⟩ := DataW.trod_bool Try.underlying4 h2
    simp at hk hi hb
    exact ⟨k, i, b, by rw [hk, hi, hb]⟩
/-- A slice of calls that came in. -/
structure OpsAt (w : World) (ao : Option Addr) (n : Nat) (K I : Nat → Int) (S : Nat → Bool) : Prop where
  at_ : ∀ i, i < n → ∃ b o, ao = some ⟨b, o, none⟩ ∧ b < w.heap.size ∧ w.cell? ⟨b, o + i * 3, none⟩ = some (.int .i64 (K i)) ∧ w.cell? ⟨b, o + i * 3 + 1, none⟩ = some (.int .i64 (I i)) ∧ w.cell? ⟨b, o + i * 3 + 2, none⟩ = some (.bool (S i))
theorem open_ops {H : Type} {enc : TypeId × Value → H} {w : World} {r : Reach} {b0 : Nat} {v : Value} {d : DataW H} {p : List MemPlace}
    (hv : Value.okWide Try.prog w r b0 22 v) (h : DataW.Trod enc Try.prog w 0 (fun _ => true) true 22 v d p) :
    ∃ ao n cap K I S, v = .slice ao n cap ∧ OpsAt w ao n K I S ∧ n ≤ maxLen := by
  obtain ⟨ao, n, cap, rfl⟩ := okWide_slice Try.underlying22 hv
  obtain ⟨fuel, hf⟩ := h
  rcases open_slice Try.underlying22 hf with ⟨hc, hx⟩ | ⟨a, len, cap', m, k, D, Pl, hc, _, hl, hm, hmm, hx, hall⟩
  · have hc' : Value.slice ao n cap = .slice none 0 0 := by simpa [Value.cells] using hc
    injection hc' with h1 h2 h3
    subst h1; subst h2; subst h3
    exact ⟨none, 0, 0, fun _ => 0, fun _ => 0, fun _ => false, rfl, ⟨fun i hi => by omega⟩, by unfold maxLen; omega⟩
  · have hc' : Value.slice ao n cap = .slice (some a) len cap' := by simpa [Value.cells] using hc
    injection hc' with h1 h2 h3
    subst h1; subst h2; subst h3
    simp only [if_true] at hmm
    subst hmm
    have each : ∀ i, i < n → ∃ q : Int × Int × Bool, w.cell? (a.add (i * 3)) = some (.int .i64 q.1) ∧ w.cell? (a.add (i * 3 + 1)) = some (.int .i64 q.2.1) ∧ w.cell? (a.add (i * 3 + 2)) = some (.bool q.2.2) := fun i hi => by
      obtain ⟨cs, h1, h2⟩ := hall i (by omega)
      obtain ⟨x, y, z, rfl⟩ := op_cells h2
      rw [cells29] at h1
      obtain ⟨_, _, hcell⟩ := World.cells?_some h1
      have e0 := hcell 0 (by omega)
      have e1 := hcell 1 (by omega)
      have e2 := hcell 2 (by omega)
      rw [add_add] at e0 e1 e2
      exact ⟨(x, y, z), by simpa using e0, by simpa using e1, by simpa using e2⟩
    obtain ⟨q, hq⟩ := choose_lt each
    refine ⟨some a, n, _, fun i => (q i).1, fun i => (q i).2.1, fun i => (q i).2.2, rfl, ⟨fun i hi => ?_⟩, by omega⟩
    obtain ⟨c0, c1, c2⟩ := hq i hi
    obtain ⟨sb, so, spot⟩ := a
    have hspot : spot = none := by simpa [Addr.add] using World.cell?_spot (hq 0 (by omega)).1
    subst hspot
    rw [Addr.add_lit] at c0 c1 c2
    exact ⟨sb, so, rfl, World.block_lt_of_cell? w _ c0, c0, by rw [Nat.add_assoc]; exact c1, by rw [Nat.add_assoc]; exact c2⟩
theorem open_op {H : Type} {enc : TypeId × Value → H} {w : World} {r : Reach} {b0 : Nat} {v : Value} {d : DataW H} {p : List MemPlace}
    (hv : Value.okWide Try.prog w r b0 29 v) (h : DataW.Trod enc Try.prog w 0 (fun _ => true) true 29 v d p) : ∃ (k i : Int) (b : Bool), v = .agg #[.int .i64 k, .int .i64 i, .bool b] := by
  have hv' : ∃ cs, v = .agg cs := by
    simp only [Value.okWide, Try.underlying29] at hv
    obtain ⟨cs, h1, _⟩ := hv
    exact ⟨cs, h1⟩
  obtain ⟨cs, rfl⟩ := hv'
  obtain ⟨fuel, hf⟩ := h
  obtain ⟨k, i, b, hc⟩ := op_cells hf
  exact ⟨k, i, b, by congr 1; exact Array.ext' hc⟩
end Go.Proofs.Ytbibfoahlieccaa

/- The composed text, what it reads as. -/
import Derived.Test.YtlnfolikociodaaComposesW
import Derived.Test.YtlnfolikociodaaBack
namespace Go.Proofs.Ytlnfolikociodaa
open Go.RowKit
/-- The composed text. -/
def coL (d e : ByteArray) : ByteArray := str (pc (coT d e) (coB d e) 0)
theorem coL_size (d e : ByteArray) : (coL d e).size ≤ 192 := by
  unfold coL; rw [str_size]; exact pc_length _ _ 64 0 (by omega)
theorem coL_read (d e : ByteArray) : (read 0 (bl (coL d e))).2 = true ∧ (∀ c j, j < 64 → puts c (read 0 (bl (coL d e))).1 j = if coT d e j = true then coB d e j else c j) ∧
    ∀ U j, j < 64 → marks U (read 0 (bl (coL d e))).1 j = if coT d e j = true then true else U j := by
  obtain ⟨ps, h1, h2, h3⟩ := read_pc0 (coT d e) (coB d e)
  unfold coL
  rw [bl_str, h1]
  exact ⟨rfl, h2, h3⟩
theorem co_two (b : Nat → BitVec 8) (d e : ByteArray) : apV b (coL d e) = .tuple #[.agg (row 64 (puts (puts b (read 0 (bl d)).1) (read 0 (bl e)).1)), .int .i64 0] := by
  obtain ⟨h1, h2, _⟩ := coL_read d e
  unfold apV
  rw [h1]
  simp only [if_true]
  rw [row_congr (g := puts (puts b (read 0 (bl d)).1) (read 0 (bl e)).1) fun j hj => ?_]
  rw [h2 b j hj]
  have h := puts_eq j ((read 0 (bl d)).1 ++ (read 0 (bl e)).1) b (fun _ => 0#8)
  rw [puts_append, marks_append, puts_append] at h
  rw [h]
  rfl
theorem apV_yes {b : Nat → BitVec 8} {d : ByteArray} (h : (read 0 (bl d)).2 = true) : apV b d = .tuple #[.agg (row 64 (puts b (read 0 (bl d)).1)), .int .i64 0] := by simp [apV, h]
theorem apV_no {b : Nat → BitVec 8} {d : ByteArray} (h : (read 0 (bl d)).2 = false) : apV b d = .tuple #[.agg (row 64 fun _ => 0#8), .int .i64 2] := by simp [apV, h]
end Go.Proofs.Ytlnfolikociodaa

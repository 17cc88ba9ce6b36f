/- Comparing versions and replies. -/
import Derived.Test.YtjaecdcddmohoaaDoW
namespace Go.Proofs.Ytjaecdcddmohoaa
open Go.RowKit
set_option linter.unusedSimpArgs false
structure RpOk (r : P.Rp) : Prop where
  e : (Lit.int .i64 r.e).wf = true
  txn : (Lit.int .u64 r.txn).wf = true
  ts : (Lit.int .u32 (r.ts : Int)).wf = true
theorem lits38 (b : P.Bd) (D : Nat) : Try.prog.keyLits (D + 2) 38 (rowL 64 b) = some ((List.range 64).map fun j => Lit.int .u8 (B (b j))) :=
  keyLits_row Try.underlying38 Try.underlying5 (by kernel_rfl) (by kernel_rfl) b
theorem lits_int {t : TypeId} {q : IntKind} (hu : Try.prog.underlying t = some (.int q)) {n : Int} (h : (Lit.int q n).wf = true) (D : Nat) : Try.prog.keyLits (D + 1) t [.int q n] = some [.int q n] := by
  simp [Program.keyLits, hu, h]
theorem lits40 {r : P.Rp} (h : RpOk r) : Try.prog.keyLits 3 40 (rpA r).toList = some (.int .i64 r.e :: .int .u64 r.txn :: .int .u32 r.ts :: (List.range 64).map fun j => Lit.int .u8 (B (r.b j))) := by
  have c40 : Try.prog.cellsOf 40 = 67 := by kernel_rfl
  have c36 : Try.prog.cellsOf 36 = 1 := by kernel_rfl
  have c32 : Try.prog.cellsOf 32 = 1 := by kernel_rfl
  have c22 : Try.prog.cellsOf 22 = 1 := by kernel_rfl
  have c38 : Try.prog.cellsOf 38 = 64 := by kernel_rfl
  have l1 := lits_int Try.underlying36 h.e 1
  have l2 := lits_int Try.underlying32 h.txn 1
  have l3 := lits_int Try.underlying22 h.ts 1
  have l4 := lits38 r.b 0
  unfold Program.keyLits
  rw [Try.underlying40]
  have hl : (rpA r).toList = .int .i64 r.e :: .int .u64 r.txn :: .int .u32 r.ts :: rowL 64 r.b := rfl
  have hlen : (rpA r).toList.length = 67 := by rw [Array.length_toList, rpA_size]
  have ht : (rowL 64 r.b).take 64 = rowL 64 r.b := List.take_of_length_le (by rw [rowL_length]; exact Nat.le_refl _)
  simp only [hlen, c40, hl, c36, c32, c22, c38, List.mapM_cons, List.mapM_nil, List.drop_zero, List.take_succ_cons, List.take_zero, List.drop_succ_cons, ht, l1, l2, l3, l4]
  rw [if_pos ⟨by simp only [List.length_cons, rowL_length], by decide +kernel⟩]
  simp
theorem formed40 (r : P.Rp) : (Value.agg (rpA r)).formed Try.prog 40 = true := by
  have c40 : Try.prog.cellsOf 40 = 67 := by kernel_rfl
  simp [Value.formed, Try.underlying40, rpA_size, c40]
theorem lits_eq {f g : P.Bd} : ((List.range 64).map fun j => Lit.int .u8 (B (f j))) = ((List.range 64).map fun j => Lit.int .u8 (B (g j))) ↔ ∀ j, j < 64 → f j = g j := by
  constructor
  · intro h j hj
    have := congrArg (fun l => l[j]?) h
    simp [hj] at this
    exact B_inj this
  · intro h
    refine List.map_congr_left fun j hj => ?_
    rw [h j (by simpa using hj)]
theorem run_eql40 {r s : P.Rp} (hr : RpOk r) (hs : RpOk s) (w : World) : ∃ b : Bool, (Op.equalIn 10000 40 (.agg (rpA r)) (.agg (rpA s))).run Try.prog w = .ok b w ∧ (b = true ↔ rpA r = rpA s) := by
  obtain ⟨b, hb, hiff⟩ := run_equalIn_deep (P := Try.prog) 9997 3 40 (by kernel_rfl) w 3 3 (.agg (rpA r)) (.agg (rpA s)) _ _ (formed40 r) (formed40 s) (lits40 hr) (lits40 hs)
  refine ⟨b, hb, hiff.trans ?_⟩
  rw [rpA_eq]
  simp only [List.cons.injEq, Lit.int.injEq, true_and]
  rw [lits_eq]
  constructor
  · rintro ⟨h1, h2, h3, h4⟩; exact ⟨h1, h2, by omega, h4⟩
  · rintro ⟨h1, h2, h3, h4⟩; exact ⟨h1, h2, by omega, h4⟩
theorem lits44 {v : P.Vr} (h : (Lit.int .u32 (v.ts : Int)).wf = true) : Try.prog.keyLits 3 44 (verA v).toList = some (.int .u32 v.ts :: (List.range 64).map fun j => Lit.int .u8 (B (v.b j))) := by
  have c44 : Try.prog.cellsOf 44 = 65 := by kernel_rfl
  have c22 : Try.prog.cellsOf 22 = 1 := by kernel_rfl
  have c38 : Try.prog.cellsOf 38 = 64 := by kernel_rfl
  have l3 := lits_int Try.underlying22 h 1
  have l4 := lits38 v.b 0
  unfold Program.keyLits
  rw [Try.underlying44]
  have hl : (verA v).toList = .int .u32 v.ts :: rowL 64 v.b := rfl
  have hlen : (verA v).toList.length = 65 := by rw [Array.length_toList, verA_size]
  have ht : (rowL 64 v.b).take 64 = rowL 64 v.b := List.take_of_length_le (by rw [rowL_length]; exact Nat.le_refl _)
  simp only [hlen, c44, hl, c22, c38, List.mapM_cons, List.mapM_nil, List.drop_zero, List.take_succ_cons, List.take_zero, List.drop_succ_cons, ht, l3, l4]
  rw [if_pos ⟨by simp only [List.length_cons, rowL_length], by decide +kernel⟩]
  simp
theorem formed44 (v : P.Vr) : (Value.agg (verA v)).formed Try.prog 44 = true := by
  have c44 : Try.prog.cellsOf 44 = 65 := by kernel_rfl
  simp [Value.formed, Try.underlying44, verA_size, c44]
theorem run_eql44 {v u : P.Vr} (hv : (Lit.int .u32 (v.ts : Int)).wf = true) (hu : (Lit.int .u32 (u.ts : Int)).wf = true) (w : World) : ∃ b : Bool, (Op.equalIn 10000 44 (.agg (verA v)) (.agg (verA u))).run Try.prog w = .ok b w ∧ (b = true ↔ verA v = verA u) := by
  obtain ⟨b, hb, hiff⟩ := run_equalIn_deep (P := Try.prog) 9997 3 44 (by kernel_rfl) w 3 3 (.agg (verA v)) (.agg (verA u)) _ _ (formed44 v) (formed44 u) (lits44 hv) (lits44 hu)
  refine ⟨b, hb, hiff.trans ?_⟩
  rw [verA_eq]
  simp only [List.cons.injEq, Lit.int.injEq, true_and]
  rw [lits_eq]
  constructor
  · rintro ⟨h3, h4⟩; exact ⟨by omega, h4⟩
  · rintro ⟨h3, h4⟩; exact ⟨by omega, h4⟩
theorem eql40_yes {r s : P.Rp} (hr : RpOk r) (hs : RpOk s) (h : rpA r = rpA s) (w : World) : (Op.equalIn 10000 40 (.agg (rpA r)) (.agg (rpA s))).run Try.prog w = .ok true w := by
  obtain ⟨b, hb, hi⟩ := run_eql40 hr hs w
  rw [hb, hi.2 h]
theorem eql44_yes {v u : P.Vr} (hv : (Lit.int .u32 (v.ts : Int)).wf = true) (hu : (Lit.int .u32 (u.ts : Int)).wf = true) (h : verA v = verA u) (w : World) : (Op.equalIn 10000 44 (.agg (verA v)) (.agg (verA u))).run Try.prog w = .ok true w := by
  obtain ⟨b, hb, hi⟩ := run_eql44 hv hu w
  rw [hb, hi.2 h]
theorem run_eql38 (f g : P.Bd) (w : World) : ∃ b : Bool, (Op.equalIn 10000 38 (.agg (row 64 f)) (.agg (row 64 g))).run Try.prog w = .ok b w ∧ (b = true ↔ ∀ j, j < 64 → f j = g j) :=
  run_eql_row Try.underlying38 Try.underlying5 (by kernel_rfl) (by kernel_rfl) (by kernel_rfl) f g w
end Go.Proofs.Ytjaecdcddmohoaa

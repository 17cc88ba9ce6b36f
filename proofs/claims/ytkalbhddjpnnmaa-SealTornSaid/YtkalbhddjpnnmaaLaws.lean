/- What the laws of seal lean on: how its arrays are compared; the walk of SealSeals. -/
import Derived.Test.YtkalbhddjpnnmaaReg
import Derived.Test.YtkalbhddjpnnmaaOpen
namespace Go.Proofs.Ytkalbhddjpnnmaa
open Go.RowKit
theorem cells26 : Try.prog.cellsOf 26 = 256 := by kernel_rfl
theorem cells24 : Try.prog.cellsOf 24 = 224 := by kernel_rfl
theorem cells31 : Try.prog.cellsOf 31 = 64 := by kernel_rfl
theorem cells5 : Try.prog.cellsOf 5 = 1 := by kernel_rfl
theorem key26 : Try.prog.keyTypeAt 2 26 = true := by kernel_rfl
theorem key25 : Try.prog.keyTypeAt 2 25 = true := by kernel_rfl
theorem key24 : Try.prog.keyTypeAt 2 24 = true := by kernel_rfl
theorem key31 : Try.prog.keyTypeAt 2 31 = true := by kernel_rfl
theorem cells25 : Try.prog.cellsOf 25 = 256 := by kernel_rfl
theorem guard26 : Try.prog.eqGuardType Try.prog.depth 26 = false := by kernel_rfl
theorem guard25 : Try.prog.eqGuardType Try.prog.depth 25 = false := by kernel_rfl
theorem guard24 : Try.prog.eqGuardType Try.prog.depth 24 = false := by kernel_rfl
theorem guard31 : Try.prog.eqGuardType Try.prog.depth 31 = false := by kernel_rfl
theorem eq26 (f : Nat → BitVec 8) (w : World) : (Op.equalIn 10000 26 (.agg (row 256 f)) (.agg (row 256 f))).run Try.prog w = .ok true w :=
  run_eql_yes Try.underlying26 Try.underlying5 cells5 cells26 key26 (fun _ _ => rfl) w
theorem eq24 (f : Nat → BitVec 8) (w : World) : (Op.equalIn 10000 24 (.agg (row 224 f)) (.agg (row 224 f))).run Try.prog w = .ok true w :=
  run_eql_yes Try.underlying24 Try.underlying5 cells5 cells24 key24 (fun _ _ => rfl) w
theorem eq31 (f : Nat → BitVec 8) (w : World) : (Op.equalIn 10000 31 (.agg (row 64 f)) (.agg (row 64 f))).run Try.prog w = .ok true w :=
  run_eql_yes Try.underlying31 Try.underlying5 cells5 cells31 key31 (fun _ _ => rfl) w
theorem int_X {x : Int} (h : (Lit.int .u64 x).wf = true) : ∃ b : BitVec 64, x = X b := ⟨BitVec.ofInt 64 x, by
  simp [Lit.wf, IntKind.min, IntKind.max, IntKind.signed, IntKind.bits] at h
  unfold X; rw [BitVec.toNat_ofInt]; omega⟩
set_option maxRecDepth 100000 in
set_option maxHeartbeats 1000000 in
theorem seals_walk (x : BitVec 64) (p : Nat → BitVec 8) (w : World) :
    Calls Try.prog 3 #[.int .u64 (X x), .agg (row 224 p)] w fun e w' => e = .returned (.bool true) ∧ Below w.heap.size w w' := by
  have he := eq26 (sealF x p)
  have hg := guard26
  go_enter Try.func3, Try.ntmps3
  go_wp2_with fail
  have hS : Below w.heap.size w (w.alloc (.cells (row 224 p) 24)).drew ∧ Blk (w.alloc (.cells (row 224 p) 24)).drew w.heap.size (row 224 p) 24 := ⟨((Below.refl _ _).alloc (Nat.le_refl _) _).drew, Blk.alloc_new _ _ _⟩
  refine wp_region_held (S := (fun w' => Below w.heap.size w w' ∧ Blk w' w.heap.size (row 224 p) 24)) (by kernel_rfl) ?_
  generalize (w.alloc (.cells (row 224 p) 24)) = w1 at *
  change wpAnyH _ _ _ _ _ _ _ _ w1.drew
  refine anyH_pure 0 _ ?_ rfl (by kernel_rfl) (by kernel_rfl) (by kernel_rfl) (fun _ _ _ h => h) rfl ?_ hS ?_
  rotate_left
  · (intro w'; go_simp; (try with_reducible rfl))
  (try simp only [Act.put, List.getElem_toArray, List.getElem_cons_zero, List.setIfInBounds_toArray, List.set_cons_zero, List.set_cons_succ])
  refine anyH_load_blk 1 _ 24 _ w.heap.size 224 p 24 5 hS (fun w' h => h.2) Try.underlying24 (zero_row info24).2 rfl rfl rfl (by kernel_rfl) (by kernel_rfl) (by kernel_rfl) (fun _ _ _ h => h) rfl ?_
  (try simp only [Act.put, List.getElem_toArray, List.getElem_cons_zero, List.getElem_cons_succ, List.setIfInBounds_toArray, List.set_cons_zero, List.set_cons_succ])
  refine anyH_pure 3 _ ?_ rfl (by kernel_rfl) (by kernel_rfl) (by kernel_rfl) (fun _ _ _ h => h) rfl ?_ hS ?_
  rotate_left
  · (intro w'; go_simp; (try with_reducible rfl))
  (try simp only [Act.put, List.getElem_toArray, List.getElem_cons_zero, List.getElem_cons_succ, List.setIfInBounds_toArray, List.set_cons_zero, List.set_cons_succ])
  refine anyH_load_blk 4 _ 24 _ w.heap.size 224 p 24 5 hS (fun w' h => h.2) Try.underlying24 (zero_row info24).2 rfl rfl rfl (by kernel_rfl) (by kernel_rfl) (by kernel_rfl) (fun _ _ _ h => h) rfl ?_
  (try simp only [Act.put, List.getElem_toArray, List.getElem_cons_zero, List.getElem_cons_succ, List.setIfInBounds_toArray, List.set_cons_zero, List.set_cons_succ])
  refine anyH_call 2 _ _ _ _ (by kernel_rfl) rfl rfl (by go_simp) ((seal_any x p _).mono fun e w' ⟨he, hb⟩ => ⟨he, hS.1.trans (hb.mono hS.1.size), hS.2.below hb⟩) (fun w' hS => ?_)
  (try simp only [Act.put, List.getElem_toArray, List.getElem_cons_zero, List.getElem_cons_succ, List.setIfInBounds_toArray, List.set_cons_zero, List.set_cons_succ])
  refine anyH_call 5 _ _ _ _ (by kernel_rfl) rfl rfl (by go_simp) ((refseal_any x p _).mono fun e w' ⟨he, hb⟩ => ⟨he, hS.1.trans (hb.mono hS.1.size), hS.2.below hb⟩) (fun w' hS => ?_)
  (try simp only [Act.put, List.getElem_toArray, List.getElem_cons_zero, List.getElem_cons_succ, List.setIfInBounds_toArray, List.set_cons_zero, List.set_cons_succ])
  refine anyH_pure 6 _ ?_ rfl (by kernel_rfl) (by kernel_rfl) (by kernel_rfl) (fun _ _ _ h => h) rfl ?_ hS ?_
  rotate_left
  · (intro w'; go_simp; (try with_reducible rfl))
  (try simp only [Act.put, List.getElem_toArray, List.getElem_cons_zero, List.getElem_cons_succ, List.setIfInBounds_toArray, List.set_cons_zero, List.set_cons_succ])
  refine anyH_pure 7 _ ?_ rfl (by kernel_rfl) (by kernel_rfl) (by kernel_rfl) (fun _ _ _ h => h) rfl ?_ hS ?_
  rotate_left
  · (intro w'; go_simp; (try with_reducible rfl))
  (try simp only [Act.put, List.getElem_toArray, List.getElem_cons_zero, List.getElem_cons_succ, List.setIfInBounds_toArray, List.set_cons_zero, List.set_cons_succ])
  refine wpAnyH_done (by kernel_rfl) ?_ _
  go_wp2_with fail
  go_ret
  exact ⟨rfl, hS.1⟩
end Go.Proofs.Ytkalbhddjpnnmaa

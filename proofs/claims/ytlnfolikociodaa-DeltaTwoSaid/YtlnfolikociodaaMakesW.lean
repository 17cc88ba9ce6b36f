/- The walk of DeltaMakes. -/
import Derived.Test.YtlnfolikociodaaRefMakeW
namespace Go.Proofs.Ytlnfolikociodaa
open Go.RowKit
theorem cells5 : Try.prog.cellsOf 5 = 1 := by kernel_rfl
theorem cells23 : Try.prog.cellsOf 23 = 64 := by kernel_rfl
structure St2 (w w' : World) (f g : Nat → BitVec 8) : Prop where
  below : Below w.heap.size w w'
  a : Blk w' w.heap.size (row 64 f) 23
  b : Blk w' (w.heap.size + 1) (row 64 g) 23
theorem St2.go {w w' w'' : World} {f g : Nat → BitVec 8} (h : St2 w w' f g) (hb : Below w'.heap.size w' w'') : St2 w w'' f g :=
  ⟨h.below.trans (hb.mono h.below.size), h.a.below hb, h.b.below hb⟩
theorem St2.drew {w w' : World} {f g : Nat → BitVec 8} (h : St2 w w' f g) : St2 w w'.drew f g := ⟨⟨h.below.os, h.below.tape, h.below.output, h.below.size, h.below.block⟩, h.a, h.b⟩
theorem St2.start (w : World) (f g : Nat → BitVec 8) : St2 w ((w.alloc (.cells (row 64 f) 23)).alloc (.cells (row 64 g) 23)) f g where
  below := ((Below.refl _ _).alloc (Nat.le_refl _) _).alloc (by simp) _
  a := (Blk.alloc_new w _ _).alloc _
  b := by
    have h := Blk.alloc_new (w.alloc (.cells (row 64 f) 23)) (row 64 g) 23
    rwa [show (w.alloc (.cells (row 64 f) 23)).heap.size = w.heap.size + 1 by simp] at h
set_option maxRecDepth 100000 in
set_option maxHeartbeats 4000000 in
theorem makes_walk (f g : Nat → BitVec 8) (w : World) :
    Calls Try.prog 3 #[.agg (row 64 f), .agg (row 64 g)] w fun e w' => e = .returned (.bool true) ∧ Below w.heap.size w w' := by
  have hS := St2.start w f g
  go_enter Try.func3, Try.ntmps3
  go_wp2
  generalize (w.alloc (.cells (row 64 f) 23)).alloc (.cells (row 64 g) 23) = w2 at *
  replace hS := hS.drew
  refine wp_region_held (S := (fun w' => St2 w w' f g)) (by kernel_rfl) ?_
  change wpAnyH _ _ _ _ _ _ _ _ w2.drew
  (try simp only [Act.put])
  refine anyH_load_blk 0 _ 23 _ w.heap.size 64 f 23 5 hS (fun w' h => h.a) Try.underlying23 (zero_row info23).2 rfl rfl rfl (by kernel_rfl) (by kernel_rfl) (by kernel_rfl) (fun _ _ _ h => h) rfl ?_
  (try simp only [Act.put, List.getElem_toArray, List.getElem_cons_zero, List.setIfInBounds_toArray, List.set_cons_zero, List.set_cons_succ])
  refine anyH_load_blk 1 _ 23 _ (w.heap.size+1) 64 g 23 5 hS (fun w' h => h.b) Try.underlying23 (zero_row info23).2 rfl rfl rfl (by kernel_rfl) (by kernel_rfl) (by kernel_rfl) (fun _ _ _ h => h) rfl ?_
  (try simp only [Act.put, List.getElem_toArray, List.getElem_cons_zero, List.getElem_cons_succ, List.setIfInBounds_toArray, List.set_cons_zero, List.set_cons_succ])
  refine anyH_load_blk 3 _ 23 _ w.heap.size 64 f 23 5 hS (fun w' h => h.a) Try.underlying23 (zero_row info23).2 rfl rfl rfl (by kernel_rfl) (by kernel_rfl) (by kernel_rfl) (fun _ _ _ h => h) rfl ?_
  (try simp only [Act.put, List.getElem_toArray, List.getElem_cons_zero, List.getElem_cons_succ, List.setIfInBounds_toArray, List.set_cons_zero, List.set_cons_succ])
  refine anyH_load_blk 4 _ 23 _ (w.heap.size+1) 64 g 23 5 hS (fun w' h => h.b) Try.underlying23 (zero_row info23).2 rfl rfl rfl (by kernel_rfl) (by kernel_rfl) (by kernel_rfl) (fun _ _ _ h => h) rfl ?_
  (try simp only [Act.put, List.getElem_toArray, List.getElem_cons_zero, List.getElem_cons_succ, List.setIfInBounds_toArray, List.set_cons_zero, List.set_cons_succ])
  refine anyH_call 2 _ _ _ _ (by kernel_rfl) rfl rfl (by go_simp) ((make_any f g _).mono fun e w' ⟨he, hb⟩ => ⟨he, hS.go hb⟩) (fun w' hS => ?_)
  (try simp only [Act.put, List.getElem_toArray, List.getElem_cons_zero, List.getElem_cons_succ, List.setIfInBounds_toArray, List.set_cons_zero, List.set_cons_succ])
  refine anyH_call 5 _ _ _ _ (by kernel_rfl) rfl rfl (by go_simp) ((refmake_any f g _).mono fun e w' ⟨he, hb⟩ => ⟨he, hS.go hb⟩) (fun w' hS => ?_)
  (try simp only [Act.put, List.getElem_toArray, List.getElem_cons_zero, List.getElem_cons_succ, List.setIfInBounds_toArray, List.set_cons_zero, List.set_cons_succ])
  refine anyH_pure 6 _ ?_ rfl (by kernel_rfl) (by kernel_rfl) (by kernel_rfl) (fun _ _ _ h => h) rfl ?_ hS ?_
  rotate_left
  · (intro w'; go_simp; (try with_reducible rfl))
  (try simp only [Act.put, List.getElem_toArray, List.getElem_cons_zero, List.getElem_cons_succ, List.setIfInBounds_toArray, List.set_cons_zero, List.set_cons_succ])
  refine anyH_pure 7 _ ?_ rfl (by kernel_rfl) (by kernel_rfl) (by kernel_rfl) (fun _ _ _ h => h) rfl ?_ hS ?_
  rotate_left
  · (intro w'; go_simp; (try with_reducible rfl))
  (try simp only [Act.put, List.getElem_toArray, List.getElem_cons_zero, List.getElem_cons_succ, List.setIfInBounds_toArray, List.set_cons_zero, List.set_cons_succ])
  refine wpAnyH_done (by kernel_rfl) ?_ _
  go_wp2_with fail
  go_ret
  exact ⟨rfl, hS.below⟩
end Go.Proofs.Ytlnfolikociodaa

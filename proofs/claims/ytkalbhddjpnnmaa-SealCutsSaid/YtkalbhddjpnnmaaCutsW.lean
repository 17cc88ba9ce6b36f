/- The walk of SealCuts. -/
import Derived.Test.YtkalbhddjpnnmaaLaws
namespace Go.Proofs.Ytkalbhddjpnnmaa
open Go.RowKit
structure CutSt (w w' : World) (f g : Nat → BitVec 8) (c : Nat) (s : Nat → BitVec 8) : Prop where
  below : Below w.heap.size w w'
  a : Blk w' w.heap.size (row 256 f) 26
  b : Blk w' (w.heap.size + 1) (row 256 g) 26
  c : Blk w' c (row 64 s) 31
theorem CutSt.go {w w' w'' : World} {f g : Nat → BitVec 8} {c : Nat} {s : Nat → BitVec 8} (h : CutSt w w' f g c s) (hb : Below w'.heap.size w' w'') : CutSt w w'' f g c s :=
  ⟨h.below.trans (hb.mono h.below.size), h.a.below hb, h.b.below hb, h.c.below hb⟩
theorem CutSt.start {w w1 : World} (f g : Nat → BitVec 8) (s : Nat → BitVec 8) (hb : Below ((w.alloc (.cells (row 256 f) 26)).alloc (.cells (row 256 g) 26)).heap.size ((w.alloc (.cells (row 256 f) 26)).alloc (.cells (row 256 g) 26)) w1) :
    CutSt w ((w1.alloc (.cells (row 64 fun _ => 0#8) 31)).setRow w1.heap.size (row 64 s)) f g w1.heap.size s := by
  have hsz : w.heap.size + 2 ≤ w1.heap.size := by have := hb.size; simpa using this
  have h0 : Blk ((w.alloc (.cells (row 256 f) 26)).alloc (.cells (row 256 g) 26)) w.heap.size (row 256 f) 26 := (Blk.alloc_new w _ _).alloc _
  have h1 : Blk ((w.alloc (.cells (row 256 f) 26)).alloc (.cells (row 256 g) 26)) (w.heap.size + 1) (row 256 g) 26 := by
    have h := Blk.alloc_new (w.alloc (.cells (row 256 f) 26)) (row 256 g) 26
    rwa [show (w.alloc (.cells (row 256 f) 26)).heap.size = w.heap.size + 1 by simp] at h
  have hw : Below w.heap.size w w1 := (((Below.refl _ _).alloc (Nat.le_refl _) _).alloc (by simp) _).trans (hb.mono (by simp; omega))
  exact ⟨below_setRow (hw.alloc (by omega) _) (by omega) _, (((h0.below hb).alloc _).setRow_other (by omega) _), (((h1.below hb).alloc _).setRow_other (by omega) _), (Blk.alloc_new w1 _ _).setRow _⟩
set_option maxRecDepth 100000 in
set_option maxHeartbeats 4000000 in
theorem cuts_walk (f g : Nat → BitVec 8) (i k : Int) (w : World) :
    Calls Try.prog 4 #[.agg (row 256 f), .agg (row 256 g), .int .i64 i, .int .i64 k] w fun e w' => e = .returned (.bool true) ∧ Below w.heap.size w w' := by
  have hz31 := (zero_row info31).1
  have he := eq31 (cutF f i)
  have he2 := eq26 (layF g k (cutF f i))
  have hg := guard31
  have hg2 := guard26
  have hf0 : Blk ((w.alloc (.cells (row 256 f) 26)).alloc (.cells (row 256 g) 26)) w.heap.size (row 256 f) 26 := (Blk.alloc_new w _ _).alloc _
  go_enter Try.func4, Try.ntmps4
  go_wp2_with (first
    | (refine wpList_load_g 26 _ w.heap.size 256 f 26 5 hf0 Try.underlying26 (zero_row info26).2 rfl rfl rfl ?_)
    | (go_at_call 10; refine (cut_any _ _ _).mono ?_; rintro e w1 ⟨rfl, hb1⟩)
    | (refine wpList_store_blk rfl 31 _ _ rfl _ 64 (fun _ => 0#8) (cutF f i) 31 (Blk.alloc_new _ _ _) rfl rfl (zero_row info31).2 ?_))
  have hS := (CutSt.start f g (cutF f i) hb1)
  generalize w1.heap.size = c at *
  generalize (w1.alloc (Obj.cells (row 64 fun _ => 0#8) 31)).setRow c (row 64 (cutF f i)) = w2 at *
  clear hb1 hf0 hz31
  replace hS : CutSt w w2.drew f g c (cutF f i) := ⟨hS.below.drew, hS.a, hS.b, hS.c⟩
  refine wp_region_held (S := (fun w' => CutSt w w' f g c (cutF f i))) (by kernel_rfl) ?_
  change wpAnyH _ _ _ _ _ _ _ _ w2.drew
  (try simp only [Act.put])
  refine anyH_load_blk 0 _ 31 _ c 64 (cutF f i) 31 5 hS (fun w' h => h.c) Try.underlying31 (zero_row info31).2 rfl rfl rfl (by kernel_rfl) (by kernel_rfl) (by kernel_rfl) (fun _ _ _ h => h) rfl ?_
  (try simp only [Act.put, List.getElem_toArray, List.getElem_cons_zero, List.setIfInBounds_toArray, List.set_cons_zero, List.set_cons_succ])
  refine anyH_load_blk 1 _ 26 _ w.heap.size 256 f 26 5 hS (fun w' h => h.a) Try.underlying26 (zero_row info26).2 rfl rfl rfl (by kernel_rfl) (by kernel_rfl) (by kernel_rfl) (fun _ _ _ h => h) rfl ?_
  (try simp only [Act.put, List.getElem_toArray, List.getElem_cons_zero, List.getElem_cons_succ, List.setIfInBounds_toArray, List.set_cons_zero, List.set_cons_succ])
  refine anyH_pure 2 _ ?_ rfl (by kernel_rfl) (by kernel_rfl) (by kernel_rfl) (fun _ _ _ h => h) rfl ?_ hS ?_
  rotate_left
  · (intro w'; go_simp; (try with_reducible rfl))
  (try simp only [Act.put, List.getElem_toArray, List.getElem_cons_zero, List.getElem_cons_succ, List.setIfInBounds_toArray, List.set_cons_zero, List.set_cons_succ])
  refine anyH_call 3 _ _ _ _ (by kernel_rfl) rfl rfl (by go_simp) ((refcut_any f i _).mono fun e w' ⟨he, hb⟩ => ⟨he, hS.go hb⟩) (fun w' hS => ?_)
  (try simp only [Act.put, List.getElem_toArray, List.getElem_cons_zero, List.getElem_cons_succ, List.setIfInBounds_toArray, List.set_cons_zero, List.set_cons_succ])
  refine anyH_pure 4 _ ?_ rfl (by kernel_rfl) (by kernel_rfl) (by kernel_rfl) (fun _ _ _ h => h) rfl ?_ hS ?_
  rotate_left
  · (intro w'; go_simp; (try with_reducible rfl))
  (try simp only [Act.put, List.getElem_toArray, List.getElem_cons_zero, List.getElem_cons_succ, List.setIfInBounds_toArray, List.set_cons_zero, List.set_cons_succ])
  refine anyH_pure 5 _ ?_ rfl (by kernel_rfl) (by kernel_rfl) (by kernel_rfl) (fun _ _ _ h => h) rfl ?_ hS ?_
  rotate_left
  · (intro w'; go_simp; (try with_reducible rfl))
  (try simp only [Act.put, List.getElem_toArray, List.getElem_cons_zero, List.getElem_cons_succ, List.setIfInBounds_toArray, List.set_cons_zero, List.set_cons_succ])
  refine anyH_load_blk 6 _ 26 _ (w.heap.size+1) 256 g 26 5 hS (fun w' h => h.b) Try.underlying26 (zero_row info26).2 rfl rfl rfl (by kernel_rfl) (by kernel_rfl) (by kernel_rfl) (fun _ _ _ h => h) rfl ?_
  (try simp only [Act.put, List.getElem_toArray, List.getElem_cons_zero, List.getElem_cons_succ, List.setIfInBounds_toArray, List.set_cons_zero, List.set_cons_succ])
  refine anyH_pure 7 _ ?_ rfl (by kernel_rfl) (by kernel_rfl) (by kernel_rfl) (fun _ _ _ h => h) rfl ?_ hS ?_
  rotate_left
  · (intro w'; go_simp; (try with_reducible rfl))
  (try simp only [Act.put, List.getElem_toArray, List.getElem_cons_zero, List.getElem_cons_succ, List.setIfInBounds_toArray, List.set_cons_zero, List.set_cons_succ])
  refine anyH_load_blk 8 _ 31 _ c 64 (cutF f i) 31 5 hS (fun w' h => h.c) Try.underlying31 (zero_row info31).2 rfl rfl rfl (by kernel_rfl) (by kernel_rfl) (by kernel_rfl) (fun _ _ _ h => h) rfl ?_
  (try simp only [Act.put, List.getElem_toArray, List.getElem_cons_zero, List.getElem_cons_succ, List.setIfInBounds_toArray, List.set_cons_zero, List.set_cons_succ])
  refine anyH_load_blk 10 _ 26 _ (w.heap.size+1) 256 g 26 5 hS (fun w' h => h.b) Try.underlying26 (zero_row info26).2 rfl rfl rfl (by kernel_rfl) (by kernel_rfl) (by kernel_rfl) (fun _ _ _ h => h) rfl ?_
  (try simp only [Act.put, List.getElem_toArray, List.getElem_cons_zero, List.getElem_cons_succ, List.setIfInBounds_toArray, List.set_cons_zero, List.set_cons_succ])
  refine anyH_pure 11 _ ?_ rfl (by kernel_rfl) (by kernel_rfl) (by kernel_rfl) (fun _ _ _ h => h) rfl ?_ hS ?_
  rotate_left
  · (intro w'; go_simp; (try with_reducible rfl))
  (try simp only [Act.put, List.getElem_toArray, List.getElem_cons_zero, List.getElem_cons_succ, List.setIfInBounds_toArray, List.set_cons_zero, List.set_cons_succ])
  refine anyH_load_blk 12 _ 31 _ c 64 (cutF f i) 31 5 hS (fun w' h => h.c) Try.underlying31 (zero_row info31).2 rfl rfl rfl (by kernel_rfl) (by kernel_rfl) (by kernel_rfl) (fun _ _ _ h => h) rfl ?_
  (try simp only [Act.put, List.getElem_toArray, List.getElem_cons_zero, List.getElem_cons_succ, List.setIfInBounds_toArray, List.set_cons_zero, List.set_cons_succ])
  refine anyH_call 9 _ _ _ _ (by kernel_rfl) rfl rfl (by go_simp) ((lay_any g k (cutF f i) _).mono fun e w' ⟨he, hb⟩ => ⟨he, hS.go hb⟩) (fun w' hS => ?_)
  (try simp only [Act.put, List.getElem_toArray, List.getElem_cons_zero, List.getElem_cons_succ, List.setIfInBounds_toArray, List.set_cons_zero, List.set_cons_succ])
  refine anyH_call 13 _ _ _ _ (by kernel_rfl) rfl rfl (by go_simp) ((reflay_any g k (cutF f i) _).mono fun e w' ⟨he, hb⟩ => ⟨he, hS.go hb⟩) (fun w' hS => ?_)
  (try simp only [Act.put, List.getElem_toArray, List.getElem_cons_zero, List.getElem_cons_succ, List.setIfInBounds_toArray, List.set_cons_zero, List.set_cons_succ])
  refine anyH_pure 14 _ ?_ rfl (by kernel_rfl) (by kernel_rfl) (by kernel_rfl) (fun _ _ _ h => h) rfl ?_ hS ?_
  rotate_left
  · (intro w'; go_simp; (try with_reducible rfl))
  (try simp only [Act.put, List.getElem_toArray, List.getElem_cons_zero, List.getElem_cons_succ, List.setIfInBounds_toArray, List.set_cons_zero, List.set_cons_succ])
  refine anyH_pure 15 _ ?_ rfl (by kernel_rfl) (by kernel_rfl) (by kernel_rfl) (fun _ _ _ h => h) rfl ?_ hS ?_
  rotate_left
  · (intro w'; go_simp; (try with_reducible rfl))
  (try simp only [Act.put, List.getElem_toArray, List.getElem_cons_zero, List.getElem_cons_succ, List.setIfInBounds_toArray, List.set_cons_zero, List.set_cons_succ])
  refine anyH_pure 16 _ ?_ rfl (by kernel_rfl) (by kernel_rfl) (by kernel_rfl) (fun _ _ _ h => h) rfl ?_ hS ?_
  rotate_left
  · (intro w'; go_simp; (try with_reducible rfl))
  (try simp only [Act.put, List.getElem_toArray, List.getElem_cons_zero, List.getElem_cons_succ, List.setIfInBounds_toArray, List.set_cons_zero, List.set_cons_succ])
  refine wpAnyH_done (by kernel_rfl) ?_ _
  go_wp2_with fail
  go_ret
  exact ⟨rfl, hS.below⟩
end Go.Proofs.Ytkalbhddjpnnmaa

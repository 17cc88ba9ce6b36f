/- The walks of SealOpens and SealBack. -/
import Derived.Test.YtkalbhddjpnnmaaRefOpenW
import Derived.Deep.DeepCutAuto
namespace Go.Proofs.Ytkalbhddjpnnmaa
open Go.RowKit
theorem Blk.store_new {w : World} {cs cs' : Array Value} {t : TypeId} : Blk ((w.alloc (.cells cs t)).setRow w.heap.size cs') w.heap.size cs' t := (Blk.alloc_new w cs t).setRow cs'
theorem Blk.store_old {w : World} {b : Nat} {cs0 cs cs' : Array Value} {t0 t : TypeId} (h : Blk w b cs0 t0) : Blk ((w.alloc (.cells cs t)).setRow w.heap.size cs') b cs0 t0 := (h.alloc _).setRow_other (by have := h.lt; omega) cs'
theorem below_store {B : Nat} {w w1 : World} {cs cs' : Array Value} {t : TypeId} (h : Below B w w1) (hB : B ≤ w1.heap.size) : Below B w ((w1.alloc (.cells cs t)).setRow w1.heap.size cs') := below_setRow (h.alloc hB _) hB _
theorem eq24' (f : Nat → BitVec 8) (w : World) : (Op.equalIn 10000 24 (.agg (row 224 f)) (.agg (row 224 f))).run Try.prog w = .ok true w := eq24 f w
set_option maxRecDepth 100000 in
set_option maxHeartbeats 4000000 in
theorem opens_walk (f : Nat → BitVec 8) (w : World) :
    Calls Try.prog 5 #[.agg (row 256 f)] w fun e w' => e = .returned (.bool true) ∧ Below w.heap.size w w' := by
  have hz24 := (zero_row info24).1
  have hz23 := (zero_row info23).1
  have hg := guard24
  by_cases hW : Whole f
  · have hv := openV_yes hW
    have he := eq24 (openP f)
    have HV := hid hv; clear hv hW
    go_enter Try.func5, Try.ntmps5
    go_upto_region 2 with (first
      | (refine wpList_load_g 26 _ w.heap.size 256 f 26 5 (Blk.alloc_new w _ _) Try.underlying26 (zero_row info26).2 rfl rfl rfl ?_)
      | (go_at_call 14; refine (open_any f _).mono ?_; rintro e w1 ⟨rfl, hb1⟩; rw [HV.out])
      | (refine wpList_store_blk rfl 24 _ _ rfl _ 224 (fun _ => 0#8) (openP f) 24 (Blk.alloc_new _ _ _) rfl rfl (zero_row info24).2 ?_))
    have hw1 : Below w.heap.size w w1 := ((Below.refl _ _).alloc (Nat.le_refl _) _).trans (hb1.mono (by simp))
    have hA : Blk ((w1.alloc (.cells (row 224 fun _ => 0#8) 24)).setRow w1.heap.size (row 224 (openP f))) w.heap.size (row 256 f) 26 := ((Blk.alloc_new w _ _).below hb1).store_old
    have hC : Blk ((w1.alloc (.cells (row 224 fun _ => 0#8) 24)).setRow w1.heap.size (row 224 (openP f))) w1.heap.size (row 224 (openP f)) 24 := Blk.store_new
    have hw2 : Below w.heap.size w ((w1.alloc (.cells (row 224 fun _ => 0#8) 24)).setRow w1.heap.size (row 224 (openP f))) := below_store hw1 hw1.size
    have hcs : w.heap.size ≤ w1.heap.size := hw1.size
    generalize w1.heap.size = c at *
    generalize (w1.alloc (.cells (row 224 fun _ => 0#8) 24)).setRow c (row 224 (openP f)) = w2 at *
    (try simp only [Act.put])
    clear hb1 hw1
    go_upto_region 3 with (first
      | (refine wpList_load_g 26 _ w.heap.size 256 f 26 5 hA Try.underlying26 (zero_row info26).2 rfl rfl rfl ?_)
      | (go_at_call 15; refine (refopen_any f _).mono ?_; rintro e w3 ⟨rfl, hb3⟩; rw [HV.out])
      | (refine wpList_store_blk rfl 23 _ _ rfl _ 224 (fun _ => 0#8) (openP f) 23 (Blk.alloc_new _ _ _) rfl rfl (zero_row info23).2 ?_))
    have hw3 : Below w.heap.size w w3 := hw2.trans (hb3.mono hw2.size)
    have hC3 : Blk ((w3.alloc (.cells (row 224 fun _ => 0#8) 23)).setRow w3.heap.size (row 224 (openP f))) c (row 224 (openP f)) 24 := (hC.below hb3).store_old
    have hD3 : Blk ((w3.alloc (.cells (row 224 fun _ => 0#8) 23)).setRow w3.heap.size (row 224 (openP f))) w3.heap.size (row 224 (openP f)) 23 := Blk.store_new
    have hw4 : Below w.heap.size w ((w3.alloc (.cells (row 224 fun _ => 0#8) 23)).setRow w3.heap.size (row 224 (openP f))) := below_store hw3 hw3.size
    generalize w3.heap.size = d at *
    generalize (w3.alloc (.cells (row 224 fun _ => 0#8) 23)).setRow d (row 224 (openP f)) = w4 at *
    (try simp only [Act.put])
    clear hb3 hw3 hw2 hA hC hcs hz24 hz23
    go_wp2_with (first
      | (refine wpList_load_g 24 _ c 224 (openP f) 24 5 hC3 Try.underlying24 (zero_row info24).2 rfl rfl rfl ?_)
      | (refine wpList_load_g 23 _ d 224 (openP f) 23 5 hD3 Try.underlying23 (zero_row info23).2 rfl rfl rfl ?_))
    go_ret
    exact ⟨rfl, hw4⟩
  · have hv := openV_no hW
    have he := eq24 (fun _ => 0#8)
    have HV := hid hv; clear hv hW
    go_enter Try.func5, Try.ntmps5
    go_upto_region 2 with (first
      | (refine wpList_load_g 26 _ w.heap.size 256 f 26 5 (Blk.alloc_new w _ _) Try.underlying26 (zero_row info26).2 rfl rfl rfl ?_)
      | (go_at_call 14; refine (open_any f _).mono ?_; rintro e w1 ⟨rfl, hb1⟩; rw [HV.out])
      | (refine wpList_store_blk rfl 24 _ _ rfl _ 224 (fun _ => 0#8) (fun _ => 0#8) 24 (Blk.alloc_new _ _ _) rfl rfl (zero_row info24).2 ?_))
    have hw1 : Below w.heap.size w w1 := ((Below.refl _ _).alloc (Nat.le_refl _) _).trans (hb1.mono (by simp))
    have hA : Blk ((w1.alloc (.cells (row 224 fun _ => 0#8) 24)).setRow w1.heap.size (row 224 (fun _ => 0#8))) w.heap.size (row 256 f) 26 := ((Blk.alloc_new w _ _).below hb1).store_old
    have hC : Blk ((w1.alloc (.cells (row 224 fun _ => 0#8) 24)).setRow w1.heap.size (row 224 (fun _ => 0#8))) w1.heap.size (row 224 (fun _ => 0#8)) 24 := Blk.store_new
    have hw2 : Below w.heap.size w ((w1.alloc (.cells (row 224 fun _ => 0#8) 24)).setRow w1.heap.size (row 224 (fun _ => 0#8))) := below_store hw1 hw1.size
    have hcs : w.heap.size ≤ w1.heap.size := hw1.size
    generalize w1.heap.size = c at *
    generalize (w1.alloc (.cells (row 224 fun _ => 0#8) 24)).setRow c (row 224 (fun _ => 0#8)) = w2 at *
    (try simp only [Act.put])
    clear hb1 hw1
    go_upto_region 3 with (first
      | (refine wpList_load_g 26 _ w.heap.size 256 f 26 5 hA Try.underlying26 (zero_row info26).2 rfl rfl rfl ?_)
      | (go_at_call 15; refine (refopen_any f _).mono ?_; rintro e w3 ⟨rfl, hb3⟩; rw [HV.out])
      | (refine wpList_store_blk rfl 23 _ _ rfl _ 224 (fun _ => 0#8) (fun _ => 0#8) 23 (Blk.alloc_new _ _ _) rfl rfl (zero_row info23).2 ?_))
    have hw3 : Below w.heap.size w w3 := hw2.trans (hb3.mono hw2.size)
    have hC3 : Blk ((w3.alloc (.cells (row 224 fun _ => 0#8) 23)).setRow w3.heap.size (row 224 (fun _ => 0#8))) c (row 224 (fun _ => 0#8)) 24 := (hC.below hb3).store_old
    have hD3 : Blk ((w3.alloc (.cells (row 224 fun _ => 0#8) 23)).setRow w3.heap.size (row 224 (fun _ => 0#8))) w3.heap.size (row 224 (fun _ => 0#8)) 23 := Blk.store_new
    have hw4 : Below w.heap.size w ((w3.alloc (.cells (row 224 fun _ => 0#8) 23)).setRow w3.heap.size (row 224 (fun _ => 0#8))) := below_store hw3 hw3.size
    generalize w3.heap.size = d at *
    generalize (w3.alloc (.cells (row 224 fun _ => 0#8) 23)).setRow d (row 224 (fun _ => 0#8)) = w4 at *
    (try simp only [Act.put])
    clear hb3 hw3 hw2 hA hC hcs hz24 hz23
    go_wp2_with (first
      | (refine wpList_load_g 24 _ c 224 (fun _ => 0#8) 24 5 hC3 Try.underlying24 (zero_row info24).2 rfl rfl rfl ?_)
      | (refine wpList_load_g 23 _ d 224 (fun _ => 0#8) 23 5 hD3 Try.underlying23 (zero_row info23).2 rfl rfl rfl ?_))
    go_ret
    exact ⟨rfl, hw4⟩
set_option maxRecDepth 100000 in
set_option maxHeartbeats 4000000 in
theorem back_walk (x : BitVec 64) (p : Nat → BitVec 8) (w : World) :
    Calls Try.prog 6 #[.int .u64 (X x), .agg (row 224 p)] w fun e w' => e = .returned (.bool true) ∧ Below w.heap.size w w' := by
  have hz24 := (zero_row info24).1
  have hg := guard24
  have he := eq24 p
  have hv : openV (sealF x p) = .tuple #[.int .u64 (X x), .agg (row 224 p), .bool true] := by
    rw [openV_yes (whole_sealF x p), stampOf_sealF, row_congr (openP_sealF x p)]
  have HV := hid hv; clear hv
  go_enter Try.func6, Try.ntmps6
  go_upto_region 2 with (first
    | (refine wpList_load_g 24 _ w.heap.size 224 p 24 5 (Blk.alloc_new w _ _) Try.underlying24 (zero_row info24).2 rfl rfl rfl ?_)
    | (go_at_call 8; refine (seal_any x p _).mono ?_; rintro e w1 ⟨rfl, hb1⟩)
    | (go_at_call 14; refine (open_any (sealF x p) _).mono ?_; rintro e w2 ⟨rfl, hb2⟩; rw [HV.out])
    | (refine wpList_store_blk rfl 24 _ _ rfl _ 224 (fun _ => 0#8) p 24 (Blk.alloc_new _ _ _) rfl rfl (zero_row info24).2 ?_))
  have hw1 : Below w.heap.size w w1 := ((Below.refl _ _).alloc (Nat.le_refl _) _).trans (hb1.mono (by simp))
  have hw2 : Below w.heap.size w w2 := hw1.trans (hb2.mono hw1.size)
  have hA : Blk ((w2.alloc (.cells (row 224 fun _ => 0#8) 24)).setRow w2.heap.size (row 224 p)) w.heap.size (row 224 p) 24 := (((Blk.alloc_new w _ _).below hb1).below hb2).store_old
  have hC : Blk ((w2.alloc (.cells (row 224 fun _ => 0#8) 24)).setRow w2.heap.size (row 224 p)) w2.heap.size (row 224 p) 24 := Blk.store_new
  have hw3 : Below w.heap.size w ((w2.alloc (.cells (row 224 fun _ => 0#8) 24)).setRow w2.heap.size (row 224 p)) := below_store hw2 hw2.size
  generalize w2.heap.size = c at *
  generalize (w2.alloc (.cells (row 224 fun _ => 0#8) 24)).setRow c (row 224 p) = w4 at *
  (try simp only [Act.put])
  clear hb1 hb2 hw1 hw2 hz24
  go_wp2_with (first
    | (refine wpList_load_g 24 _ c 224 p 24 5 hC Try.underlying24 (zero_row info24).2 rfl rfl rfl ?_)
    | (refine wpList_load_g 24 _ w.heap.size 224 p 24 5 hA Try.underlying24 (zero_row info24).2 rfl rfl rfl ?_))
  go_ret
  exact ⟨rfl, hw3⟩
end Go.Proofs.Ytkalbhddjpnnmaa

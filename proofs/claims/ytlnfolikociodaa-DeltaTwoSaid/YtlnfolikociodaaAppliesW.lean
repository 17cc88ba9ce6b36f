/- The walk of DeltaApplies. -/
import Derived.Test.YtlnfolikociodaaAwakeW
import Derived.Test.YtlnfolikociodaaRefApplyW
namespace Go.Proofs.Ytlnfolikociodaa
open Go.RowKit
set_option linter.unusedSimpArgs false
theorem Blk.keep {W : World} {g : Nat} {cs : Array Value} {t : TypeId} (h : Blk W g cs t) (o : Obj) (cs' : Array Value) : Blk ((W.alloc o).setRow W.heap.size cs') g cs t :=
  (h.alloc o).setRow_other (by have := h.lt; omega) _
theorem Blk.made (W : World) (cs cs' : Array Value) (t : TypeId) : Blk ((W.alloc (.cells cs t)).setRow W.heap.size cs') W.heap.size cs' t := (Blk.alloc_new W _ _).setRow _
theorem below_made {w W : World} (h : Below w.heap.size w W) (o : Obj) (cs' : Array Value) : Below w.heap.size w ((W.alloc o).setRow W.heap.size cs') := below_setRow (h.alloc h.size _) h.size _
theorem below_go {w W W' : World} (h : Below w.heap.size w W) (h' : Below W.heap.size W W') : Below w.heap.size w W' := h.trans (h'.mono h.size)
theorem key23 : Try.prog.keyTypeAt 2 23 = true := by kernel_rfl
theorem guard23 : Try.prog.eqGuardType Try.prog.depth 23 = false := by kernel_rfl
theorem eq23 (f : Nat → BitVec 8) (w : World) : (Op.equalIn 10000 23 (.agg (row 64 f)) (.agg (row 64 f))).run Try.prog w = .ok true w :=
  run_eql_yes Try.underlying23 Try.underlying5 cells5 cells23 key23 (fun _ _ => rfl) w
set_option maxRecDepth 100000 in
set_option maxHeartbeats 4000000 in
theorem applies_walk (b : Nat → BitVec 8) (d : ByteArray) (hd : d.size ≤ 140737488351232) (w : World) :
    Calls Try.prog 5 #[.agg (row 64 b), .string d] w fun e w' => e = .returned (.bool true) ∧ Below w.heap.size w w' := by
  have hz22 := (zero_row info22).1
  have hz23 := (zero_row info23).1
  have hg := guard23
  cases hv : (read 0 (bl d)).2
  all_goals
    obtain ⟨x, hx⟩ : ∃ x, x = (if (read 0 (bl d)).2 = true then puts b (read 0 (bl d)).1 else fun _ => 0#8) := ⟨_, rfl⟩
    have hA : apV b d = .tuple #[.agg (row 64 x), .int .i64 (if (read 0 (bl d)).2 = true then 0 else 2)] := by rw [hx]; rfl
    have hR : raV b d = .tuple #[.agg (row 64 x), .bool (read 0 (bl d)).2] := by rw [hx]; rfl
    rw [hv] at hA hR
    simp only [Bool.false_eq_true, if_false, if_true] at hA
    replace hA := hid hA
    replace hR := hid hR
    replace hv := hid hv
    clear hx
    have he := eq23 x
    have b0 : Blk (w.alloc (.cells (row 64 b) 23)) w.heap.size (row 64 b) 23 := Blk.alloc_new w _ _
    have L0 : Below w.heap.size w (w.alloc (.cells (row 64 b) 23)) := (Below.refl _ _).alloc (Nat.le_refl _) _
    go_enter Try.func5, Try.ntmps5
    go_wp2_with (first
      | (refine wpList_load_g 23 _ w.heap.size 64 b 23 5 b0 Try.underlying23 (zero_row info23).2 rfl rfl rfl ?_)
      | (go_at_call 13; refine (apply_any b d hd _).mono ?_; rintro e w1 ⟨rfl, hb1⟩; rw [hA.out]; have b1 := (b0.below hb1).keep (.cells (row 64 fun _ => 0#8) 23) (row 64 x); have x1 := Blk.made w1 (row 64 fun _ => 0#8) (row 64 x) 23; have L1 := below_made (below_go L0 hb1) (.cells (row 64 fun _ => 0#8) 23) (row 64 x))
      | (refine wpList_store_blk rfl 23 _ _ rfl w1.heap.size 64 (fun _ => 0#8) x 23 (Blk.alloc_new w1 _ _) rfl rfl (zero_row info23).2 ?_)
      | (refine wpList_load_g 23 _ w.heap.size 64 b 23 5 b1 Try.underlying23 (zero_row info23).2 rfl rfl rfl ?_)
      | (go_at_call 14; refine (refapply_any b d hd _).mono ?_; rintro e w2 ⟨rfl, hb2⟩; rw [hR.out]; have x2 := (x1.below hb2).keep (.cells (row 64 fun _ => 0#8) 22) (row 64 x); have y2 := Blk.made w2 (row 64 fun _ => 0#8) (row 64 x) 22; have L2 := below_made (below_go L1 hb2) (.cells (row 64 fun _ => 0#8) 22) (row 64 x))
      | (refine wpList_store_blk rfl 22 _ _ rfl w2.heap.size 64 (fun _ => 0#8) x 22 (Blk.alloc_new w2 _ _) rfl rfl (zero_row info22).2 ?_)
      | (refine wpList_load_g 23 _ w1.heap.size 64 x 23 5 x2 Try.underlying23 (zero_row info23).2 rfl rfl rfl ?_)
      | (refine wpList_load_g 22 _ w2.heap.size 64 x 22 5 y2 Try.underlying22 (zero_row info22).2 rfl rfl rfl ?_)
      | (go_at_call 15; refine (check_any d hd _).mono ?_; rintro e w3 ⟨rfl, hb3⟩; rw [hv.out])
      | (go_at_call 12; refine (awake_any _).mono ?_; rintro e w4 ⟨rfl, hb4⟩))
    go_ret
    exact ⟨rfl, below_go (below_go L2 hb3) hb4⟩
end Go.Proofs.Ytlnfolikociodaa

/- The walk of DeltaTwo. -/
import Derived.Test.YtlnfolikociodaaCoL
namespace Go.Proofs.Ytlnfolikociodaa
open Go.RowKit
set_option linter.unusedSimpArgs false
set_option maxRecDepth 100000 in
set_option maxHeartbeats 4000000 in
theorem two_yes (b : Nat → BitVec 8) (d e : ByteArray) (hd : d.size ≤ 140737488351232) (he : e.size ≤ 140737488351232) (v1 : (read 0 (bl d)).2 = true) (v2 : (read 0 (bl e)).2 = true) (w : World) :
    Calls Try.prog 9 #[.agg (row 64 b), .string d, .string e] w fun r w' => r = .returned (.bool true) ∧ Below w.heap.size w w' := by
  have hz23 := (zero_row info23).1
  have hgd := guard23
  have hA1 := hid (apV_yes (b := b) v1)
  have hA2 := hid (apV_yes (b := puts b (read 0 (bl d)).1) v2)
  have hA3 := hid (co_two b d e)
  have hC : coV d e = .tuple #[.string (coL d e), .int .i64 0] := by rw [coV, if_pos ⟨v1, v2⟩]; rfl
  have hK := hid (coL_read d e).1
  have hsz : (coL d e).size ≤ 140737488351232 := Nat.le_trans (coL_size d e) (by omega)
  replace hC := hid hC
  clear v1 v2
  generalize puts (puts b (read 0 (bl d)).1) (read 0 (bl e)).1 = y at *
  generalize puts b (read 0 (bl d)).1 = x at *
  generalize coL d e = c at *
  have heq := eq23 y
  have b0 : Blk (w.alloc (.cells (row 64 b) 23)) w.heap.size (row 64 b) 23 := Blk.alloc_new w _ _
  have L0 : Below w.heap.size w (w.alloc (.cells (row 64 b) 23)) := (Below.refl _ _).alloc (Nat.le_refl _) _
  go_enter Try.func9, Try.ntmps9
  go_wp2_with (first
    | (refine wpList_load_g 23 _ w.heap.size 64 b 23 5 b0 Try.underlying23 (zero_row info23).2 rfl rfl rfl ?_))
  refine (apply_any b d hd _).mono ?_
  rintro r w1 ⟨rfl, hb1⟩
  rw [hA1.out]
  have b1 := (b0.below hb1).keep (.cells (row 64 fun _ => 0#8) 23) (row 64 x)
  have x1 := Blk.made w1 (row 64 fun _ => 0#8) (row 64 x) 23
  have L1 := below_made (below_go L0 hb1) (.cells (row 64 fun _ => 0#8) 23) (row 64 x)
  go_wp2_with (first
    | (refine wpList_store_blk rfl 23 _ _ rfl w1.heap.size 64 (fun _ => 0#8) x 23 (Blk.alloc_new w1 _ _) rfl rfl (zero_row info23).2 ?_)
    | (refine wpList_load_g 23 _ w1.heap.size 64 x 23 5 x1 Try.underlying23 (zero_row info23).2 rfl rfl rfl ?_))
  refine (apply_any x e he _).mono ?_
  rintro r w2 ⟨rfl, hb2⟩
  rw [hA2.out]
  have b2 := (b1.below hb2).keep (.cells (row 64 fun _ => 0#8) 23) (row 64 y)
  have y2 := Blk.made w2 (row 64 fun _ => 0#8) (row 64 y) 23
  have L2 := below_made (below_go L1 hb2) (.cells (row 64 fun _ => 0#8) 23) (row 64 y)
  go_wp2_with (first
    | (refine wpList_store_blk rfl 23 _ _ rfl w2.heap.size 64 (fun _ => 0#8) y 23 (Blk.alloc_new w2 _ _) rfl rfl (zero_row info23).2 ?_))
  refine (compose_any d e hd he _).mono ?_
  rintro r w3 ⟨rfl, hb3⟩
  rw [hC.out]
  have b3 := b2.below hb3
  have y3 := y2.below hb3
  have L3 := below_go L2 hb3
  go_wp2_with (first
    | (refine wpList_load_g 23 _ w.heap.size 64 b 23 5 b3 Try.underlying23 (zero_row info23).2 rfl rfl rfl ?_))
  refine (apply_any b c hsz _).mono ?_
  rintro r w4 ⟨rfl, hb4⟩
  rw [hA3.out]
  have y4 := (y3.below hb4).keep (.cells (row 64 fun _ => 0#8) 23) (row 64 y)
  have z4 := Blk.made w4 (row 64 fun _ => 0#8) (row 64 y) 23
  have L4 := below_made (below_go L3 hb4) (.cells (row 64 fun _ => 0#8) 23) (row 64 y)
  go_wp2_with (first
    | (refine wpList_store_blk rfl 23 _ _ rfl w4.heap.size 64 (fun _ => 0#8) y 23 (Blk.alloc_new w4 _ _) rfl rfl (zero_row info23).2 ?_)
    | (refine wpList_load_g 23 _ w2.heap.size 64 y 23 5 y4 Try.underlying23 (zero_row info23).2 rfl rfl rfl ?_)
    | (refine wpList_load_g 23 _ w4.heap.size 64 y 23 5 z4 Try.underlying23 (zero_row info23).2 rfl rfl rfl ?_))
  refine (check_any c hsz _).mono ?_
  rintro r w5 ⟨rfl, hb5⟩
  rw [hK.out]
  go_wp2_with fail
  refine (awake_any _).mono ?_
  rintro r w6 ⟨rfl, hb6⟩
  go_wp2_with fail
  go_ret
  exact ⟨rfl, below_go (below_go L4 hb5) hb6⟩
set_option maxRecDepth 100000 in
set_option maxHeartbeats 4000000 in
theorem two_no (b : Nat → BitVec 8) (d e : ByteArray) (hd : d.size ≤ 140737488351232) (he : e.size ≤ 140737488351232) (v : ¬ ((read 0 (bl d)).2 = true ∧ (read 0 (bl e)).2 = true)) (w : World) :
    Calls Try.prog 9 #[.agg (row 64 b), .string d, .string e] w fun r w' => r = .returned (.bool true) ∧ Below w.heap.size w w' := by
  have hz23 := (zero_row info23).1
  have hC : coV d e = .tuple #[.string ⟨#[]⟩, .int .i64 2] := by rw [coV, if_neg v]; rfl
  replace hC := hid hC
  have hor : (∃ x y n, apV b d = .tuple #[.agg (row 64 x), .int .i64 2] ∧ apV x e = .tuple #[.agg (row 64 y), .int .i64 n]) ∨ (∃ x y, apV b d = .tuple #[.agg (row 64 x), .int .i64 0] ∧ apV x e = .tuple #[.agg (row 64 y), .int .i64 2]) := by
    cases h1 : (read 0 (bl d)).2
    · exact .inl ⟨_, _, _, apV_no h1, rfl⟩
    · cases h2 : (read 0 (bl e)).2
      · exact .inr ⟨_, _, apV_yes h1, apV_no h2⟩
      · exact absurd ⟨h1, h2⟩ v
  clear v
  have b0 : Blk (w.alloc (.cells (row 64 b) 23)) w.heap.size (row 64 b) 23 := Blk.alloc_new w _ _
  have L0 : Below w.heap.size w (w.alloc (.cells (row 64 b) 23)) := (Below.refl _ _).alloc (Nat.le_refl _) _
  rcases hor with ⟨x, y, n, hA1, hA2⟩ | ⟨x, y, hA1, hA2⟩
  all_goals
    replace hA1 := hid hA1
    replace hA2 := hid hA2
    go_enter Try.func9, Try.ntmps9
    go_wp2_with (first
      | (refine wpList_load_g 23 _ w.heap.size 64 b 23 5 b0 Try.underlying23 (zero_row info23).2 rfl rfl rfl ?_))
    refine (apply_any b d hd _).mono ?_
    rintro r w1 ⟨rfl, hb1⟩
    rw [hA1.out]
    have b1 := (b0.below hb1).keep (.cells (row 64 fun _ => 0#8) 23) (row 64 x)
    have x1 := Blk.made w1 (row 64 fun _ => 0#8) (row 64 x) 23
    have L1 := below_made (below_go L0 hb1) (.cells (row 64 fun _ => 0#8) 23) (row 64 x)
    go_wp2_with (first
      | (refine wpList_store_blk rfl 23 _ _ rfl w1.heap.size 64 (fun _ => 0#8) x 23 (Blk.alloc_new w1 _ _) rfl rfl (zero_row info23).2 ?_)
      | (refine wpList_load_g 23 _ w1.heap.size 64 x 23 5 x1 Try.underlying23 (zero_row info23).2 rfl rfl rfl ?_))
    refine (apply_any x e he _).mono ?_
    rintro r w2 ⟨rfl, hb2⟩
    rw [hA2.out]
    have L2 := below_made (below_go L1 hb2) (.cells (row 64 fun _ => 0#8) 23) (row 64 y)
    go_wp2_with (first
      | (refine wpList_store_blk rfl 23 _ _ rfl w2.heap.size 64 (fun _ => 0#8) y 23 (Blk.alloc_new w2 _ _) rfl rfl (zero_row info23).2 ?_))
    refine (compose_any d e hd he _).mono ?_
    rintro r w3 ⟨rfl, hb3⟩
    rw [hC.out]
    have L3 := below_go L2 hb3
    go_wp2_with fail
    refine (awake_any _).mono ?_
    rintro r w6 ⟨rfl, hb6⟩
    go_wp2_with fail
    go_ret
    exact ⟨rfl, below_go L3 hb6⟩
theorem two_walk (b : Nat → BitVec 8) (d e : ByteArray) (hd : d.size ≤ 140737488351232) (he : e.size ≤ 140737488351232) (w : World) :
    Calls Try.prog 9 #[.agg (row 64 b), .string d, .string e] w fun r w' => r = .returned (.bool true) ∧ Below w.heap.size w w' := by
  by_cases v : (read 0 (bl d)).2 = true ∧ (read 0 (bl e)).2 = true
  · exact two_yes b d e hd he v.1 v.2 w
  · exact two_no b d e hd he v w
end Go.Proofs.Ytlnfolikociodaa

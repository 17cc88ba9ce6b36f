/- The walk of DeltaBack. -/
import Derived.Test.YtlnfolikociodaaLeastW
import Derived.Test.YtlnfolikociodaaAppliesW
import Derived.Test.YtlnfolikociodaaBack
namespace Go.Proofs.Ytlnfolikociodaa
open Go.RowKit
set_option linter.unusedSimpArgs false
theorem tch_len {D : Nat → Bool} {g : Nat → BitVec 8} : ∀ (n p : Nat) (E : Int), 64 - p ≤ n → p ≤ 64 → LeastAt D p E → pc (tch D) g p = [] ∨ ∃ q : Nat, p ≤ q ∧ q < 64 ∧ 3 ≤ (q : Int) - E ∧ (pc (tch D) g p).length ≤ 66 - q
  | n, p, E, hn, hp64, hp => by
    by_cases he : pc (tch D) g p = []
    · exact .inl he
    · obtain ⟨q, h1, h2, h3, h4, h5⟩ := next_piece n p hn he
      obtain ⟨_, _, k3, k4⟩ := least_piece hp h1 h2 h3 h4
      have s1 := stop_gt h2 h3
      have s2 := stop_le (tch D) (Nat.le_of_lt h2)
      refine .inr ⟨q, h1, h2, k3, ?_⟩
      rw [h5]
      generalize stop (tch D) q = e at *
      simp only [List.length_cons, List.length_append, seg_length]
      match n, hn with
      | 0, hn => omega
      | n + 1, hn =>
        rcases tch_len n e e (by omega) s2 k4 with h | ⟨q', p1, p2, p3, p4⟩
        · rw [h]; simp; omega
        · omega
termination_by n => n
theorem back_len (D : Nat → Bool) (g : Nat → BitVec 8) : (pc (tch D) g 0).length ≤ 66 := by
  rcases tch_len (D := D) (g := g) 64 0 (-9) (by omega) (by omega) (.inl ⟨rfl, rfl⟩) with h | ⟨q, _, _, _, h⟩
  · rw [h]; simp
  · omega
theorem back_row (f g : Nat → BitVec 8) : apV f (str (pc (tch (Eq1 f g)) g 0)) = .tuple #[.agg (row 64 g), .int .i64 0] := by
  obtain ⟨ps, h1, h2, _⟩ := read_pc0 (tch (Eq1 f g)) g
  unfold apV
  rw [bl_str, h1]
  simp only [if_true]
  rw [row_congr (g := g) fun j hj => ?_]
  rw [h2 f j hj]
  by_cases h : tch (Eq1 f g) j = true
  · rw [if_pos h]
  · rw [if_neg h]
    by_cases e : f j = g j
    · exact e
    · exact absurd ((tch_iff _ _).2 (.inl (by simp [Eq1, e]))) h
theorem back_check (f g : Nat → BitVec 8) : (read 0 (bl (str (pc (tch (Eq1 f g)) g 0)))).2 = true := by
  obtain ⟨ps, h1, _⟩ := read_pc0 (tch (Eq1 f g)) g
  rw [bl_str, h1]
theorem back_nil {f g : Nat → BitVec 8} : pc (tch (Eq1 f g)) g 0 = [] ↔ ∀ j, j < 64 → f j = g j := by
  constructor
  · intro h j hj
    have := no_piece 64 0 (by omega) h j (by omega) hj
    by_cases e : f j = g j
    · exact e
    · rw [(tch_iff _ _).2 (.inl (by simp [Eq1, e]))] at this; cases this
  · intro h
    by_cases he : pc (tch (Eq1 f g)) g 0 = []
    · exact he
    · obtain ⟨q, _, h2, h3, _⟩ := next_piece 64 0 (by omega) he
      rcases (tch_iff _ q).1 h3 with h5 | ⟨a, b, hb, p1, p2, p3, p4, p5, p6⟩
      · simp [Eq1, h q h2] at h5
      · simp [Eq1, h b hb] at p4
set_option maxRecDepth 100000 in
set_option maxHeartbeats 4000000 in
theorem back_walk (f g : Nat → BitVec 8) (w : World) :
    Calls Try.prog 6 #[.agg (row 64 f), .agg (row 64 g)] w fun e w' => e = .returned (.bool true) ∧ Below w.heap.size w w' := by
  have hz23 := (zero_row info23).1
  have hgd := guard23
  have hS := St2.start w f g
  have hA := hid (back_row f g)
  have hC := hid (back_check f g)
  have hsz : (str (pc (tch (Eq1 f g)) g 0)).size ≤ 66 := by rw [str_size]; exact back_len _ _
  have heq := eq23 g
  have hz23' := hz23
  by_cases hfg : ∀ j, j < 64 → f j = g j
  · have he2 := fun w => run_eql_yes (P := Try.prog) Try.underlying23 Try.underlying5 cells5 cells23 key23 hfg w
    have hn : (str (pc (tch (Eq1 f g)) g 0)).toList = [] := by rw [back_nil.2 hfg, ByteArray.toList_eq]; rfl
    have hn2 : (str (pc (tch (Eq1 f g)) g 0)).toList.isEmpty = true := by rw [hn]; rfl
    replace hfg := hid hfg
    have hS0 := hS
    go_enter Try.func6, Try.ntmps6
    go_wp2_with (first
      | (refine wpList_load_g 23 _ w.heap.size 64 f 23 5 hS0.a Try.underlying23 (zero_row info23).2 rfl rfl rfl ?_)
      | (refine wpList_load_g 23 _ (w.heap.size + 1) 64 g 23 5 hS0.b Try.underlying23 (zero_row info23).2 rfl rfl rfl ?_)
      | (go_at_call 10; refine (make_any f g _).mono ?_; rintro e w1 ⟨rfl, hb1⟩; have hS1 := hS0.go hb1)
      | (refine wpList_load_g 23 _ w.heap.size 64 f 23 5 hS1.a Try.underlying23 (zero_row info23).2 rfl rfl rfl ?_)
      | (go_at_call 13; refine (apply_any f _ (Nat.le_trans hsz (by omega)) _).mono ?_; rintro e w2 ⟨rfl, hb2⟩; rw [hA.out]; have hS2 := hS1.go hb2; have x2 := Blk.made w2 (row 64 fun _ => 0#8) (row 64 g) 23; have f2 := hS2.a.keep (.cells (row 64 fun _ => 0#8) 23) (row 64 g); have g2 := hS2.b.keep (.cells (row 64 fun _ => 0#8) 23) (row 64 g); have L2 := below_made hS2.below (.cells (row 64 fun _ => 0#8) 23) (row 64 g))
      | (refine wpList_store_blk rfl 23 _ _ rfl w2.heap.size 64 (fun _ => 0#8) g 23 (Blk.alloc_new w2 _ _) rfl rfl (zero_row info23).2 ?_)
      | (refine wpList_load_g 23 _ w2.heap.size 64 g 23 5 x2 Try.underlying23 (zero_row info23).2 rfl rfl rfl ?_)
      | (refine wpList_load_g 23 _ (w.heap.size + 1) 64 g 23 5 g2 Try.underlying23 (zero_row info23).2 rfl rfl rfl ?_)
      | (go_at_call 15; refine (check_any _ (Nat.le_trans hsz (by omega)) _).mono ?_; rintro e w3 ⟨rfl, hb3⟩; rw [hC.out]; have f3 := f2.below hb3; have g3 := g2.below hb3)
      | (refine wpList_load_g 23 _ w.heap.size 64 f 23 5 f3 Try.underlying23 (zero_row info23).2 rfl rfl rfl ?_)
      | (refine wpList_load_g 23 _ (w.heap.size + 1) 64 g 23 5 g3 Try.underlying23 (zero_row info23).2 rfl rfl rfl ?_)
      | (go_at_call 12; refine (awake_any _).mono ?_; rintro e w4 ⟨rfl, hb4⟩))
    go_ret
    exact ⟨rfl, below_go (below_go L2 hb3) hb4⟩
  · have he2 := fun w => run_eql_no (P := Try.prog) Try.underlying23 Try.underlying5 cells5 cells23 key23 hfg w
    have hne : pc (tch (Eq1 f g)) g 0 ≠ [] := fun h => hfg (back_nil.1 h)
    have hn2 : (str (pc (tch (Eq1 f g)) g 0)).toList.isEmpty = false := by
      cases h : pc (tch (Eq1 f g)) g 0 with
      | nil => exact absurd h hne
      | cons a l => rw [ByteArray.toList_eq]; rfl
    replace hfg := hid hfg
    replace hne := hid hne
    have hS0 := hS
    go_enter Try.func6, Try.ntmps6
    go_wp2_with (first
      | (refine wpList_load_g 23 _ w.heap.size 64 f 23 5 hS0.a Try.underlying23 (zero_row info23).2 rfl rfl rfl ?_)
      | (refine wpList_load_g 23 _ (w.heap.size + 1) 64 g 23 5 hS0.b Try.underlying23 (zero_row info23).2 rfl rfl rfl ?_)
      | (go_at_call 10; refine (make_any f g _).mono ?_; rintro e w1 ⟨rfl, hb1⟩; have hS1 := hS0.go hb1)
      | (refine wpList_load_g 23 _ w.heap.size 64 f 23 5 hS1.a Try.underlying23 (zero_row info23).2 rfl rfl rfl ?_)
      | (go_at_call 13; refine (apply_any f _ (Nat.le_trans hsz (by omega)) _).mono ?_; rintro e w2 ⟨rfl, hb2⟩; rw [hA.out]; have hS2 := hS1.go hb2; have x2 := Blk.made w2 (row 64 fun _ => 0#8) (row 64 g) 23; have f2 := hS2.a.keep (.cells (row 64 fun _ => 0#8) 23) (row 64 g); have g2 := hS2.b.keep (.cells (row 64 fun _ => 0#8) 23) (row 64 g); have L2 := below_made hS2.below (.cells (row 64 fun _ => 0#8) 23) (row 64 g))
      | (refine wpList_store_blk rfl 23 _ _ rfl w2.heap.size 64 (fun _ => 0#8) g 23 (Blk.alloc_new w2 _ _) rfl rfl (zero_row info23).2 ?_)
      | (refine wpList_load_g 23 _ w2.heap.size 64 g 23 5 x2 Try.underlying23 (zero_row info23).2 rfl rfl rfl ?_)
      | (refine wpList_load_g 23 _ (w.heap.size + 1) 64 g 23 5 g2 Try.underlying23 (zero_row info23).2 rfl rfl rfl ?_)
      | (go_at_call 15; refine (check_any _ (Nat.le_trans hsz (by omega)) _).mono ?_; rintro e w3 ⟨rfl, hb3⟩; rw [hC.out]; have f3 := f2.below hb3; have g3 := g2.below hb3)
      | (refine wpList_load_g 23 _ w.heap.size 64 f 23 5 f3 Try.underlying23 (zero_row info23).2 rfl rfl rfl ?_)
      | (refine wpList_load_g 23 _ (w.heap.size + 1) 64 g 23 5 g3 Try.underlying23 (zero_row info23).2 rfl rfl rfl ?_)
      | (go_at_call 12; refine (awake_any _).mono ?_; rintro e w4 ⟨rfl, hb4⟩))
    go_ret
    exact ⟨rfl, below_go (below_go L2 hb3) hb4⟩
end Go.Proofs.Ytlnfolikociodaa

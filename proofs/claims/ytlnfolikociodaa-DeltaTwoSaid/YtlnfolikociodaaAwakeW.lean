/- The walk of delta's awake. -/
import Derived.Test.YtlnfolikociodaaClosW
import Derived.Test.YtlnfolikociodaaMakesW
namespace Go.Proofs.Ytlnfolikociodaa
open Go.RowKit
set_option linter.unusedSimpArgs false
theorem awake_pc : pc (tch (Eq1 (fun _ => 0#8) (upd (fun _ => 0#8) 5 7#8))) (upd (fun _ => 0#8) 5 7#8) 0 = [5#8, 1#8, 7#8] := by
  have h : ∀ j, tch (Eq1 (fun _ => 0#8) (upd (fun _ => 0#8) 5 7#8)) j = decide (j = 5) := fun j => by
    have hD : ∀ k, Eq1 (fun _ => 0#8) (upd (fun _ => 0#8) 5 7#8) k = true ↔ k = 5 := fun k => by
      unfold Eq1 upd
      by_cases e : k = 5
      · simp [e]
      · simp [e]
    rw [Bool.eq_iff_iff, tch_iff, decide_eq_true_iff]
    constructor
    · rintro (h | ⟨a, b, _, h1, _, h3, h4, _⟩)
      · exact (hD j).1 h
      · have := (hD a).1 h3; have := (hD b).1 h4; omega
    · intro h; exact .inl ((hD j).2 h)
  rw [pc_congr (u := fun j => decide (j = 5)) (c := upd (fun _ => 0#8) 5 7#8) (fun j _ => h j) (fun j _ _ => rfl) 64 0 (by omega)]
  decide +kernel
theorem awake_read : (read 0 (bl ⟨#[5, 1, 7]⟩)).2 = true := by decide +kernel
set_option maxRecDepth 100000 in
set_option maxHeartbeats 4000000 in
theorem awake_any (w : World) : Calls Try.prog 12 #[] w fun e w' => e = .returned (.bool true) ∧ Below w.heap.size w w' := by
  have hz23 := (zero_row info23).1
  have h2 : Blk ((w.alloc (.cells (row 64 fun _ => 0#8) 23)).alloc (.cells (row 64 fun _ => 0#8) 23)) (w.heap.size + 1) (row 64 fun _ => 0#8) 23 := by
    have h := Blk.alloc_new (w.alloc (.cells (row 64 fun _ => 0#8) 23)) (row 64 fun _ => 0#8) 23
    rwa [show (w.alloc (.cells (row 64 fun _ => 0#8) 23)).heap.size = w.heap.size + 1 by simp] at h
  have h1 : Blk ((w.alloc (.cells (row 64 fun _ => 0#8) 23)).alloc (.cells (row 64 fun _ => 0#8) 23)) w.heap.size (row 64 fun _ => 0#8) 23 := (Blk.alloc_new w _ _).alloc _
  have c1 := h2.byte (j := 5) (by omega)
  have g1 := h2.free 5
  have hL1 : Blk ((w.alloc (.cells (row 64 fun _ => 0#8) 23)).alloc (.cells ((row 64 fun _ => 0#8).setIfInBounds 5 (.int .u8 7)) 23)) w.heap.size (row 64 fun _ => 0#8) 23 := (Blk.alloc_new w _ _).alloc _
  have hL2 : Blk ((w.alloc (.cells (row 64 fun _ => 0#8) 23)).alloc (.cells ((row 64 fun _ => 0#8).setIfInBounds 5 (.int .u8 7)) 23)) (w.heap.size + 1) (row 64 (upd (fun _ => 0#8) 5 7#8)) 23 := by
    have h := Blk.alloc_new (w.alloc (.cells (row 64 fun _ => 0#8) 23)) ((row 64 fun _ => 0#8).setIfInBounds 5 (.int .u8 7)) 23
    rw [show (w.alloc (.cells (row 64 fun _ => 0#8) 23)).heap.size = w.heap.size + 1 by simp] at h
    rw [← row_set]; exact h
  have hbel : Below w.heap.size w ((w.alloc (.cells (row 64 fun _ => 0#8) 23)).alloc (.cells ((row 64 fun _ => 0#8).setIfInBounds 5 (.int .u8 7)) 23)) := ((Below.refl _ _).alloc (Nat.le_refl _) _).alloc (by simp) _
  have hmk := hid (awake_pc)
  have hrd := hid awake_read
  have hstr : Hid (str [5#8, 1#8, 7#8] = ⟨#[5, 1, 7]⟩) := hid rfl
  go_enter Try.func12, Try.ntmps12
  go_wp2_with (first
    | (refine wpList_load_g 23 _ w.heap.size 64 (fun _ => 0#8) 23 5 hL1 Try.underlying23 (zero_row info23).2 rfl rfl rfl ?_)
    | (refine wpList_load_g 23 _ (w.heap.size + 1) 64 (upd (fun _ => 0#8) 5 7#8) 23 5 hL2 Try.underlying23 (zero_row info23).2 rfl rfl rfl ?_)
    | (go_at_call 10; refine (make_any _ _ _).mono ?_; rintro e w1 ⟨rfl, hb1⟩; rw [hmk.out, hstr.out])
    | (go_at_call 15; refine (check_any _ (by decide) _).mono ?_; rintro e w2 ⟨rfl, hb2⟩; rw [hrd.out]))
  go_ret
  exact ⟨rfl, (hbel.trans (hb1.mono hbel.size)).trans (hb2.mono (Nat.le_trans hbel.size hb1.size))⟩
end Go.Proofs.Ytlnfolikociodaa

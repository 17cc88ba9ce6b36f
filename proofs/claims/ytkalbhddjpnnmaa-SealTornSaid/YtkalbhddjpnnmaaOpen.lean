/- The walks of seal's Open and of the document's Lay and Open. -/
import Derived.Test.YtkalbhddjpnnmaaWalks
namespace Go.Proofs.Ytkalbhddjpnnmaa
open Go.RowKit

set_option maxRecDepth 100000 in
set_option maxHeartbeats 1000000 in
theorem reflay_any (f : Nat → BitVec 8) (i : Int) (s : Nat → BitVec 8) (w : World) :
    Calls Try.prog 13 #[.agg (row 256 f), .int .i64 i, .agg (row 64 s)] w fun e w' => e = .returned (.agg (row 256 (layF f i s))) ∧ Below w.heap.size w w' := by
  have hz25 := (zero_row info25).1
  have hS := St3.start w 256 f 25 64 s 30 256 (fun _ => 0#8) 25
  have HS := hid hS; clear hS
  by_cases h0 : 0 ≤ i ∧ i < 4
  · obtain ⟨h0, h4⟩ := h0
    obtain ⟨m, rfl⟩ := Int.eq_ofNat_of_zero_le h0
    have hm : m < 4 := by omega
    have hcf : layF f (m : Int) s = lay f (64 * m) 64 s 0 := by funext k; unfold layF; rw [if_pos ⟨h0, h4⟩]; rfl
    rw [hcf]; clear hcf
    go_enter Try.func13, Try.ntmps13
    go_wp2_with fail
    clear hz25
    go_loopw [7] (fun v wr => ∃ (k : Nat) (g : Nat → BitVec 8), k ≤ 64 ∧ v = .int .i64 k ∧ St3 w wr 256 g 25 64 s 30 256 (fun _ => 0#8) 25 ∧ ∀ j, j < 256 → g j = lay f (64 * m) k s 0 j) (fun v _ => 64 - (intOf v).toNat)
    case atStart => exact ⟨0, _, Nat.zero_le _, rfl, HS.out, fun j hj => by unfold lay; rw [if_neg (by omega)]⟩
    case round =>
      obtain ⟨k, g, hk, rfl, hS, hg⟩ := hrel
      have HG := hid hg; clear hg
      by_cases hlt : k < 64
      · have hltI : (k : Int) < 64 := by omega
        have hc := hS.b0.byte (j := 64 * m + k) (by omega)
        have hz := hS.b0.free (64 * m + k)
        have hs := hS.b1.byte (j := k) hlt
        have i1 : (64 * (m : Int) + (k : Int)).toNat = 64 * m + k := by omega
        have i3 : 64 * (m : Int) + (k : Int) < 256 := by omega
        go_wp2_with fail
        go_roundw
        case rel =>
          refine ⟨k + 1, upd g (64 * m + k) (s k), by omega, by go_num, ?_, fun j hj => ?_⟩
          · rw [hS.b0.setCell, show (Value.int .u8 (B (s k))) = bv (s k) from rfl, row_set]
            exact hS.set0 _
          · unfold upd
            by_cases e : j = 64 * m + k
            · rw [if_pos e]; unfold lay; rw [if_pos (by omega)]; congr 1; omega
            · rw [if_neg e, HG.out j hj]; unfold lay
              by_cases h1 : 64 * m ≤ j ∧ j < 64 * m + k
              · rw [if_pos h1, if_pos (by omega)]
              · rw [if_neg h1, if_neg (by omega)]
        case measure => simp [intOf]; omega
      · obtain rfl : k = 64 := by omega
        have hd := hS.b0
        have hr := hS.b2
        rw [row_congr HG.out] at hd
        generalize hgg : lay f (64 * m) 64 s 0 = g' at *
        have Hg := hid hgg; clear hgg
        go_wp2_with (first
          | (refine wpList_load_blk rfl 25 _ rfl w.heap.size 256 g' 25 hd rfl 5 Try.underlying25 (zero_row info25).2 ?_)
          | (refine wpList_store_blk rfl 25 _ _ rfl (w.heap.size + 1 + 1) 256 (fun _ => 0#8) g' 25 hr rfl rfl (zero_row info25).2 ?_))
        refine bodyPost_ret (v := .agg (row 256 g')) ?_ rfl ⟨by rw [Hg.out], below_setRow hS.below (by omega) _⟩
        exact results_cell_row rfl _ _ (w.heap.size + 1 + 1) 25 (row 256 g') (0, 0) _ rfl (hr.setRow _) Try.underlying25 rfl (by rw [row_size]; exact (zero_row info25).2)
  · have hcf : layF f i s = f := by funext k; unfold layF; rw [if_neg h0]
    rw [hcf]; clear hcf
    have fin : ∀ wr, St3 w wr 256 f 25 64 s 30 256 (fun _ => 0#8) 25 → Below w.heap.size w (wr.setRow (w.heap.size + 1 + 1) (row 256 f)) ∧ Blk (wr.setRow (w.heap.size + 1 + 1) (row 256 f)) (w.heap.size + 1 + 1) (row 256 f) 25 :=
      fun wr h => ⟨below_setRow h.below (by omega) _, h.b2.setRow _⟩
    have Fin := hid fin; clear fin
    by_cases h1 : 0 ≤ i
    · have h2 : ¬ i < 4 := fun h => h0 ⟨h1, h⟩
      clear h0
      go_enter Try.func13, Try.ntmps13
      go_wp2_with fail
      go_loop [7] (fun v => v = .int .i64 0) (fun _ => 0)
      case atStart => rfl
      case round =>
        subst hrel
        go_wp2_with (first
          | (refine wpList_load_blk rfl 25 _ rfl w.heap.size 256 f 25 HS.out.b0 rfl 5 Try.underlying25 (zero_row info25).2 ?_)
          | (refine wpList_store_blk rfl 25 _ _ rfl (w.heap.size + 1 + 1) 256 (fun _ => 0#8) f 25 HS.out.b2 rfl rfl (zero_row info25).2 ?_))
        refine bodyPost_ret (v := .agg (row 256 f)) ?_ rfl ⟨rfl, (Fin.out _ HS.out).1⟩
        exact results_cell_row rfl _ _ (w.heap.size + 1 + 1) 25 (row 256 f) (0, 0) _ rfl (Fin.out _ HS.out).2 Try.underlying25 rfl (by rw [row_size]; exact (zero_row info25).2)
    · clear h0
      go_enter Try.func13, Try.ntmps13
      go_wp2_with fail
      go_loop [7] (fun v => v = .int .i64 0) (fun _ => 0)
      case atStart => rfl
      case round =>
        subst hrel
        go_wp2_with (first
          | (refine wpList_load_blk rfl 25 _ rfl w.heap.size 256 f 25 HS.out.b0 rfl 5 Try.underlying25 (zero_row info25).2 ?_)
          | (refine wpList_store_blk rfl 25 _ _ rfl (w.heap.size + 1 + 1) 256 (fun _ => 0#8) f 25 HS.out.b2 rfl rfl (zero_row info25).2 ?_))
        refine bodyPost_ret (v := .agg (row 256 f)) ?_ rfl ⟨rfl, (Fin.out _ HS.out).1⟩
        exact results_cell_row rfl _ _ (w.heap.size + 1 + 1) 25 (row 256 f) (0, 0) _ rfl (Fin.out _ HS.out).2 Try.underlying25 rfl (by rw [row_size]; exact (zero_row info25).2)
end Go.Proofs.Ytkalbhddjpnnmaa
